/- D, part 14: calls. -/
import Derived.Test.YtpfhmnmpiagnnaaGreatDoorD13
namespace Go.D
open Go

section
variable {P : Program}

def putOne (i : Nat) : List SV → Nat → Option SV := fun vs t => if i ≤ t then vs[t - i]? else none
theorem putArgs_get : ∀ (vs : List SV) (e : Env) (i t : Nat), Tr.get (putArgs e i vs) t = match putOne i vs t with | some v => some v | none => Tr.get e t
  | [], e, i, t => by simp [putArgs, putOne]
  | v :: vs, e, i, t => by
    rw [putArgs, putArgs_get vs, Tr.get_put]
    unfold putOne
    by_cases h1 : i + 1 ≤ t
    · have h3 : t - i = (t - (i + 1)) + 1 := by omega
      have h4 : i ≠ t := by omega
      simp only [if_pos h1, if_pos (show i ≤ t by omega), h3, List.getElem?_cons_succ, if_neg h4]
    · by_cases h2 : i = t
      · subst h2; simp only [if_neg h1, Nat.le_refl, Nat.sub_self, if_true, List.getElem?_cons_zero]
      · simp only [if_neg h1, if_neg h2, if_neg (show ¬ i ≤ t by omega)]
theorem rel_enter {ρ : Nm} {args : List SV} {xs : List Value} (h : VRs ρ args xs) (nt : Nat) :
    Rel ρ nt (putArgs .tip 0 args) { tmps := (⟨xs⟩ : Array Value) ++ Array.replicate (nt - xs.length) undef, defers := [] } := by
  refine ⟨by simp; omega, fun t => ?_⟩
  have hg : (putArgs .tip 0 args).at t = (args[t]?).getD und := by
    unfold Env.at
    rw [putArgs_get]
    unfold putOne
    rw [if_pos (by omega), Nat.sub_zero]
    cases args[t]? with
    | none => rfl
    | some v => rfl
  rw [hg]
  have hl := VRs_length h
  cases ha : args[t]? with
  | some v =>
    obtain ⟨x, hx, hv⟩ := VRs_get h ha
    have hlt : t < xs.length := by rw [List.getElem?_eq_some_iff] at hx; exact hx.1
    simp [Array.getD_eq_getD_getElem?, Array.getElem?_append, hlt]
    rw [List.getElem?_eq_getElem hlt] at hx
    cases hx
    exact hv
  | none =>
    have hge : xs.length ≤ t := by rw [hl]; exact List.getElem?_eq_none_iff.1 ha
    have hu : (((⟨xs⟩ : Array Value) ++ Array.replicate (nt - xs.length) undef).getD t undef) = undef := by
      simp only [Array.getD_eq_getD_getElem?, Array.getElem?_append]
      rw [if_neg (by simpa using hge)]
      simp only [Array.getElem?_replicate]
      split <;> rfl
    rw [hu]
    exact VR_und ρ

def resOne (a : Act) : ResultVar → Sem Value
  | .tmp t => pure (a.tmps.getD t undef)
  | .cell x t => do loadVar t (← asAddr (a.tmps.getD x undef))
theorem results_eq (fn : Func) (a : Act) : results fn a.tmps = (do
    let vs ← fn.results.mapM (resOne a)
    pure (if h : vs.size = 1 then vs[0] else .tuple vs)) := by
  unfold results
  refine congrArg (fun m => Bind.bind m _) (congrArg (fun g => Array.mapM g fn.results) ?_)
  funext r
  cases r <;> rfl
theorem results_list {ρ : Nm} {h : Heap} {F : Fr} {w : World} (hs : Sim ρ h F w) {nt : Nat} {e : Env} {a : Act} (hr : Rel ρ nt e a) :
    ∀ {rs : List ResultVar} {vs : List SV}, resultsD P h e rs = some vs → ∃ xs, VRs ρ vs xs ∧
      (rs.mapM (resOne a)).run P w = .ok xs w
  | [], vs, hd => by
    simp only [resultsD, Option.some.injEq] at hd
    subst hd
    exact ⟨[], VRs_nil', by simp⟩
  | .tmp t :: rs, vs, hd => by
    simp only [resultsD] at hd
    split at hd
    · rename_i us hus
      cases hd
      obtain ⟨xs, h1, h2⟩ := results_list hs hr hus
      exact ⟨_, VRs_mk (hr.val t) h1, by rw [List.mapM_cons]; simp only [resOne, Sem.run_bind, Sem.run_pure, Result.andThen_ok, h2]⟩
    · cases hd
  | .cell t ty :: rs, vs, hd => by
    simp only [resultsD] at hd
    split at hd
    · rename_i nm off ht
      split at hd
      · rename_i v us hv hus
        cases hd
        have hp := hr.val t
        rw [ht] at hp
        obtain ⟨l, hl, hx⟩ := VR_ptr hp
        obtain ⟨x, g1, g2⟩ := loadT_sound (P := P) hs hv hl
        obtain ⟨xs, h1, h2⟩ := results_list hs hr hus
        exact ⟨_, VRs_mk g1 h1, by rw [List.mapM_cons]; simp only [resOne, Sem.run_bind, Sem.run_pure, Result.andThen_ok, hx, asAddr, g2, h2]⟩
      · cases hd
    · cases hd

theorem results_sound {ρ : Nm} {h : Heap} {F : Fr} {w : World} (hs : Sim ρ h F w) {nt : Nat} {e : Env} {a : Act} (hr : Rel ρ nt e a) {fn : Func} {vs : List SV}
    (hd : resultsD P h e fn.results.toList = some vs) : ∃ x, VR ρ (packD vs) x ∧ (results fn a.tmps).run P w = .ok x w := by
  obtain ⟨xs, h1, h2⟩ := results_list (P := P) hs hr hd
  have hrun : (results fn a.tmps).run P w = .ok (if h : (⟨xs⟩ : Array Value).size = 1 then (⟨xs⟩ : Array Value)[0] else .tuple ⟨xs⟩) w := by
    rw [results_eq, Array.mapM_eq_mapM_toList]
    simp only [Sem.run_bind, Sem.run_map, Sem.run_pure, h2]
    rfl
  refine ⟨_, ?_, hrun⟩
  cases vs with
  | nil => rw [VRs_nil h1]; simp only [packD, VR]; exact ⟨[], VRs_nil', rfl⟩
  | cons v vs =>
    obtain ⟨x, ys, rfl, g1, g2⟩ := VRs_cons h1
    cases vs with
    | nil => rw [VRs_nil g2]; exact g1
    | cons u us =>
      obtain ⟨y, zs, rfl, g3, g4⟩ := VRs_cons g2
      have : ¬ ((⟨x :: y :: zs⟩ : Array Value).size = 1) := by simp
      rw [dif_neg this]
      simp only [packD, VR]
      exact ⟨_, h1, rfl⟩

def XGood (P : Program) (X : Lo → CallF) : Prop :=
  ∀ Y lo, GoodLo P Y lo → ∀ f args h v h', X lo f args h = some (v, h') → ∀ (Fc : Fence) (n : Nat) (ρ : Nm) (F : Fr) (w : World) (xs : List Value), Wide Fc → Ctx ρ F Y → Sim ρ h F w → VRs ρ args xs →
    CallOk Fc n P f xs w (Post ρ F w h.next v h')

theorem leaves_marks {ρ' : Nm} {F : Fr} {w : World} {nt : Nat} {e' : Env} {a' : Act} {h' : Heap} {fn : Func} {vs : List SV} {Fc : Fence} {n : Nat} {R : Ending → World → Prop} (hres : resultsD P h' e' fn.results.toList = some vs) (hr : Rel ρ' nt e' a')
    (hR : ∀ y w'', VR ρ' (packD vs) y → Sim ρ' h' F w'' → Same w w'' → R (.returned y) w'') : ∀ (rs : List Nat) (F' : Fr) (w' : World), rs.Nodup → (∀ r ∈ rs, F r = none ∧ F' r = some (.deferred (some []))) → F.le F' → Sim ρ' h' F' w' → Same w w' →
    LeavesInM Fc n P fn a'.tmps R (rs.map fun r => { target := .collected r, args := #[] }) .returning w'
  | [], F', w', _, _, hF, hs, hS => by
    obtain ⟨y, r1, r2⟩ := results_sound (P := P) hs hr hres
    exact ⟨y, r2, hR y w' r1 (hs.weaken hF) hS⟩
  | r :: rs, F', w', hnd, hrs, hF, hs, hS => by
    obtain ⟨h1, h2⟩ := List.nodup_cons.1 hnd
    obtain ⟨g1, g2⟩ := hrs r (List.mem_cons_self ..)
    refine ⟨by simp, .inl ⟨r, _, rfl, run_takeDeferred (hs.frame _ _ g2), ?_⟩⟩
    refine leaves_marks hres hr hR rs (F'.set r (.deferred none)) _ h2 (fun x hx => ?_) (Fr.le_set hF (.inl g1)) (hs.turn g2 _) (hS.trans (setBlk_same _ _ _))
    obtain ⟨k1, k2⟩ := hrs x (List.mem_cons_of_mem _ hx)
    have hne : x ≠ r := fun he => h1 (he ▸ hx)
    exact ⟨k1, by rw [Fr.set_ne _ _ hne]; exact k2⟩

theorem body_sound {Y : List (Nat × LoopRec)} {lo : Lo} (hg : GoodLo P Y lo) {any : AnyF} (hA : AnyGood P Y lo any) {L : Nat} (hN : ∀ (f : Nat) (fn : Func), P.funcs[f]? = some fn → fn.name ≠ "runtime.NumGoroutine")
    {f : FuncId} {args : List SV} {h h' : Heap} {v : SV} (hd : bodyD P any L lo f args h = some (v, h')) {Fc : Fence} {n : Nat} {ρ : Nm} {F : Fr} {w : World} {xs : List Value} (hw : Wide Fc) (hy : Ctx ρ F Y) (hs : Sim ρ h F w) (hx : VRs ρ args xs) :
    (callFunc f ⟨xs⟩).run P w = .ok (.enter f ⟨xs⟩) w ∧ CallsIn Fc n P f ⟨xs⟩ w (fun | .returned x, w' => Post ρ F w h.next v h' x w' | _, _ => False) := by
  unfold bodyD at hd
  split at hd
  · cases hd
  rename_i fn hf
  split at hd
  · cases hd
  rename_i c hc
  have key : ∀ (x : Ex) (e1 : Env) (h1 : Heap) (vs : List SV), codeD P lo any true L fn.ntmps c (putArgs .tip 0 args) h = some (x, e1, h1) → (x = .nrm ∨ x = .ret) →
      resultsD P h1 e1 fn.results.toList = some vs → CallsIn Fc n P f ⟨xs⟩ w (fun | .returned x, w' => Post ρ F w h.next (packD vs) h1 x w' | _, _ => False) := by
    intro x e1 h1 vs hcode hxe hres
    have hgo : CallsIn Fc.plain n P f ⟨xs⟩ w (fun | .returned x, w'' => Post ρ F w h.next (packD vs) h1 x w'' | _, _ => False) := by
      refine callsIn_of_wp_marks hf hc (hw.fn f) ?_ rfl
      refine code_sound hg hA hw.plain (fun _ => rfl) c _ ρ F w _ _ h x e1 h1 hcode hy (rel_enter hx fn.ntmps) hs fun a' w' H => ?_
      obtain ⟨ρ', F', g1, gF, g2, ⟨rs, m1, m2, m3⟩, g4, g5, g6⟩ := H
      have hl : LeavesInM Fc.plain n P fn a'.tmps (fun | .returned x, w'' => Post ρ F w h.next (packD vs) h1 x w'' | _, _ => False) a'.defers .returning w' := by
        rw [m3, List.append_nil]
        exact leaves_marks (w := w) hres g2 (fun y w'' r1 r2 r3 => ⟨ρ', g1, r1, r2, r3, g6⟩) rs F' w' m1 m2 gF g4 g5
      rcases hxe with rfl | rfl
      · exact hl
      · exact hl
    exact hgo
  have hcall : (callFunc f ⟨xs⟩).run P w = .ok (.enter f ⟨xs⟩) w := by simp [callFunc, hf, hN f fn hf, hc]
  split at hd
  · rename_i e1 h1 hcode
    split at hd
    · rename_i vs hres
      cases hd
      exact ⟨hcall, key _ _ _ vs hcode (.inl rfl) hres⟩
    · cases hd
  · rename_i e1 h1 hcode
    split at hd
    · rename_i vs hres
      cases hd
      exact ⟨hcall, key _ _ _ vs hcode (.inr rfl) hres⟩
    · cases hd
  · cases hd

mutual
theorem pure_VR {ρ ρ' : Nm} : ∀ (v : SV) (x : Value), v.pure = true → VR ρ v x → VR ρ' v x
  | .bool _, _, _, e | .int _ _, _, _, e | .flt _ _, _, _, e | .str _, _, _, e | .nilp, _, _, e | .nils, _, _, e | .nilm, _, _, e | .nilf, _, _, e | .nili, _, _, e => by simpa only [VR] using e
  | .ptr _ _, _, h, _ | .slc _ _ _ _ _, _, h, _ | .yld _, _, h, _ => by simp [SV.pure] at h
  | .fn f a b, x, h, e => by
    simp only [SV.pure, Bool.and_eq_true] at h
    simp only [VR] at e ⊢
    obtain ⟨p, q, h1, h2, h3⟩ := e
    exact ⟨p, q, pure_VRs _ _ h.1 h1, pure_VRs _ _ h.2 h2, h3⟩
  | .ifc t v, x, h, e => by
    simp only [SV.pure] at h
    simp only [VR] at e ⊢
    obtain ⟨u, h1, h2⟩ := e
    exact ⟨u, pure_VR _ _ h h1, h2⟩
  | .agg cs, x, h, e => by
    simp only [SV.pure] at h
    simp only [VR] at e ⊢
    obtain ⟨l, h1, h2⟩ := e
    exact ⟨l, pure_VRs _ _ h h1, h2⟩
  | .tup cs, x, h, e => by
    simp only [SV.pure] at h
    simp only [VR] at e ⊢
    obtain ⟨l, h1, h2⟩ := e
    exact ⟨l, pure_VRs _ _ h h1, h2⟩
theorem pure_VRs {ρ ρ' : Nm} : ∀ (vs : List SV) (xs : List Value), SV.pures vs = true → VRs ρ vs xs → VRs ρ' vs xs
  | [], _, _, e => by simpa only [VRs] using e
  | v :: vs, xs, h, e => by
    simp only [SV.pures, Bool.and_eq_true] at h
    obtain ⟨x, ys, rfl, h1, h2⟩ := VRs_cons e
    exact VRs_mk (pure_VR _ _ h.1 h1) (pure_VRs _ _ h.2 h2)
end
theorem get_merge {α : Type} : ∀ (a b : Tr α) (i : Nat), (a.merge b).get i = match b.get i with | some v => some v | none => a.get i
  | .tip, t, i => by
    have h : (Tr.tip : Tr α).merge t = t := by cases t <;> rfl
    rw [h]
    cases t.get i <;> rfl
  | .n v l r, .tip, i => by
    have h : (Tr.n v l r).merge .tip = .n v l r := rfl
    rw [h]
    rfl
  | .n v l r, .n v' l' r', i => by
    have h : (Tr.n v l r).merge (.n v' l' r') = .n (match v' with | some x => some x | none => v) (l.merge l') (r.merge r') := rfl
    rw [h, Tr.get, Tr.get, Tr.get]
    split
    · cases v' <;> rfl
    · split
      · exact get_merge l l' _
      · exact get_merge r r' _
theorem Sim.moved {ρ : Nm} {h : Heap} {F : Fr} {w w' : World} (hs : Sim ρ h F w) (hk : ∀ (b : Nat) (o : Obj), w.heap[b]? = some o → w'.heap[b]? = some o) : Sim ρ h F w' := by
  refine ⟨fun nm cs hg => ?_, hs.inj, fun b o hb => hk b o (hs.frame b o hb), hs.fresh⟩
  obtain ⟨l, h1, ⟨c, el, fz, h0, h2⟩, h3⟩ := hs.row nm cs hg
  exact ⟨l, h1, ⟨c, el, fz, hk _ _ h0, h2⟩, h3⟩
theorem arena_sound {lo : Lo} (hg : GoodLo P [] lo) {any : AnyF} (hA : AnyGood P [] lo any) {L : Nat} (hN : ∀ (f : Nat) (fn : Func), P.funcs[f]? = some fn → fn.name ≠ "runtime.NumGoroutine")
    {f : FuncId} {args : List SV} {h h' : Heap} {v : SV} (hp : SV.pures args = true) (hd : arenaD P any L lo f args h = some (v, h')) {Fc : Fence} {n : Nat} {ρ : Nm} {F : Fr} {w : World} {xs : List Value} (hw : Wide Fc) (hs : Sim ρ h F w) (hx : VRs ρ args xs) :
    (callFunc f ⟨xs⟩).run P w = .ok (.enter f ⟨xs⟩) w ∧ CallsIn Fc n P f ⟨xs⟩ w (fun | .returned x, w' => Post ρ F w h.next v h' x w' | _, _ => False) := by
  unfold arenaD at hd
  split at hd
  case h_2 => cases hd
  rename_i v1 h1 hb
  have hs0 : Sim (fun _ => none) ⟨.tip, h.next⟩ (fun b => w.heap[b]?) w :=
    ⟨fun nm cs hg => (by cases hg), fun nm nm' cs cs' l l' hg => (by cases hg), fun b o hb => hb, fun _ _ => rfl⟩
  obtain ⟨c1, c2⟩ := body_sound hg hA hN hb (n := n) hw (Ctx.nil _ _) hs0 (pure_VRs (ρ' := fun _ => none) args xs hp hx)
  refine ⟨c1, CallsIn.mono c2 fun en w' hR => ?_⟩
  cases en with
  | panicked c => exact hR.elim
  | outgrown => exact hR.elim
  | returned x =>
    obtain ⟨ρ', g1, g2, g3, g4, g5⟩ := hR
    have hk : ∀ (b : Nat) (o : Obj), w.heap[b]? = some o → w'.heap[b]? = some o := g3.frame
    have hs' := hs.moved hk
    split at hd
    · rename_i hpv
      cases hd
      exact ⟨ρ, Ext.refl _ _, pure_VR v x hpv g2, hs', g4, Nat.le_refl _⟩
    · cases hd
      have g5 : h.next ≤ h1.next := g5
      have hnone : ∀ nm, nm < h.next → ρ' nm = none := fun nm hn => g1.low nm hn
      let σ : Nm := fun nm => if nm < h.next then ρ nm else ρ' nm
      have hlow : ∀ nm, nm < h.next → σ nm = ρ nm := fun nm hn => if_pos hn
      have le1 : ρ.le σ := fun nm l hl => by
        by_cases hn : nm < h.next
        · rw [hlow nm hn]; exact hl
        · rw [hs.fresh nm (by omega)] at hl; cases hl
      have le2 : ρ'.le σ := fun nm l hl => by
        by_cases hn : nm < h.next
        · rw [hnone nm hn] at hl; cases hl
        · show (if nm < h.next then ρ nm else ρ' nm) = _; rw [if_neg hn]; exact hl
      have hget : ∀ nm, Heap.get ⟨h.mem.merge h1.mem, h1.next⟩ nm = match h1.get nm with | some c => some c | none => h.get nm := fun nm => by
        show Tr.get (h.mem.merge h1.mem) nm = _
        rw [get_merge]
        show _ = (match Tr.get h1.mem nm with | some c => some c | none => Tr.get h.mem nm)
        cases Tr.get h1.mem nm <;> rfl
      have hcase : ∀ nm cs, Heap.get ⟨h.mem.merge h1.mem, h1.next⟩ nm = some cs →
          (∃ l, σ nm = some l ∧ RowAt σ l cs w' ∧ F l.blk = none ∧ h1.get nm = some cs ∧ ρ' nm = some l ∧ w.heap[l.blk]? = none) ∨ (∃ l, σ nm = some l ∧ RowAt σ l cs w' ∧ F l.blk = none ∧ h.get nm = some cs ∧ ρ nm = some l ∧ ∃ o, w.heap[l.blk]? = some o) := fun nm cs hm => by
        rw [hget] at hm
        cases hg1 : h1.get nm with
        | some c =>
          rw [hg1] at hm
          cases hm
          obtain ⟨l, k1, ⟨cc, el, fz, k2, k3⟩, k4⟩ := g3.row nm _ hg1
          have hrow : RowAt ρ' l cs w' := ⟨cc, el, fz, k2, k3⟩
          refine .inl ⟨l, le2 _ _ k1, ((hrow.obj k2).mono le2).at k2, ?_, rfl, k1, k4⟩
          cases hF : F l.blk with
          | none => rfl
          | some o => have := hs.frame _ _ hF; rw [k4] at this; cases this
        | none =>
          rw [hg1] at hm
          obtain ⟨l, k1, ⟨cc, el, fz, k2, k3⟩, k4⟩ := hs.row nm cs hm
          have k2' := hk _ _ k2
          have hrow : RowAt ρ l cs w' := ⟨cc, el, fz, k2', k3⟩
          exact .inr ⟨l, le1 _ _ k1, ((hrow.obj k2').mono le1).at k2', k4, hm, k1, _, k2⟩
      refine ⟨σ, ⟨le1, hlow⟩, VR_mono le2 _ _ g2, ⟨fun nm cs hm => ?_, fun nm nm' cs cs' l l' hm hm' hl hl' he => ?_, fun b o hb => hk b o (hs.frame b o hb), fun nm hn => ?_⟩, g4, g5⟩
      · rcases hcase nm cs hm with ⟨l, k1, k2, k3, _⟩ | ⟨l, k1, k2, k3, _⟩
        · exact ⟨l, k1, k2, k3⟩
        · exact ⟨l, k1, k2, k3⟩
      · rcases hcase nm cs hm with ⟨l1, k1, _, _, k4, k5, k6⟩ | ⟨l1, k1, _, _, k4, k5, o, k6⟩
        · rw [hl] at k1; cases k1
          rcases hcase nm' cs' hm' with ⟨l2, j1, _, _, j4, j5, j6⟩ | ⟨l2, j1, _, _, j4, j5, o', j6⟩
          · rw [hl'] at j1; cases j1
            exact g3.inj nm nm' cs cs' l l' k4 j4 k5 j5 he
          · rw [hl'] at j1; cases j1
            rw [he, j6] at k6; cases k6
        · rw [hl] at k1; cases k1
          rcases hcase nm' cs' hm' with ⟨l2, j1, _, _, j4, j5, j6⟩ | ⟨l2, j1, _, _, j4, j5, o', j6⟩
          · rw [hl'] at j1; cases j1
            rw [he, j6] at k6; cases k6
          · rw [hl'] at j1; cases j1
            exact hs.inj nm nm' cs cs' l l' k4 j4 k5 j5 he
      · have hn : h1.next ≤ nm := hn
        show (if nm < h.next then ρ nm else ρ' nm) = none
        rw [if_neg (by omega)]
        exact g3.fresh nm hn

theorem findY_drop (Y : List (Nat × LoopRec)) (nm m : Nat) : findY (dropY Y nm) m = if m = nm then none else findY Y m := by
  unfold dropY
  induction Y with
  | nil => simp [findY]
  | cons x Y ih =>
    obtain ⟨k, r⟩ := x
    rw [List.filter_cons]
    by_cases hk : k = nm
    · subst hk
      simp only [beq_self_eq_true, Bool.not_true, Bool.false_eq_true, if_false, ih, findY]
      by_cases hm : m = k
      · rw [if_pos hm, if_pos hm]
      · rw [if_neg hm, if_neg hm, if_neg (Ne.symm hm)]
    · have : (!(k == nm)) = true := by simpa using hk
      rw [if_pos this]
      simp only [findY, ih]
      by_cases hm : k = m
      · subst hm; rw [if_pos rfl, if_neg hk, if_pos rfl]
      · rw [if_neg hm, if_neg hm]

theorem putPs_rel {ρ : Nm} {nt : Nat} : ∀ (ps : List Tmp) {vs : List SV} {xs : List Value} {e : Env} {tmps : Array Value}, VRs ρ vs xs → (ps.all fun p => decide (p < nt)) = true → Rel ρ nt e { tmps := tmps, defers := [] } →
    Rel ρ nt (putPs e ps vs) { tmps := (ps.zip xs).foldl (fun t (p, x) => t.setIfInBounds p x) tmps, defers := [] }
  | [], vs, xs, e, tmps, _, _, hr => by simpa [putPs] using hr
  | p :: ps, [], xs, e, tmps, hx, _, hr => by rw [VRs_nil hx]; simpa [putPs] using hr
  | p :: ps, v :: vs, xs, e, tmps, hx, hp, hr => by
    obtain ⟨x, ys, rfl, h1, h2⟩ := VRs_cons hx
    rw [List.all_cons, Bool.and_eq_true, decide_eq_true_eq] at hp
    rw [putPs, List.zip_cons_cons, List.foldl_cons]
    exact putPs_rel ps h2 hp.2 (hr.put (d := some p) (fun t ht => by cases ht; exact hp.1) h1)

theorem round_sound {Y : List (Nat × LoopRec)} {nm : Nat} {r : LoopRec} (hfy : findY Y nm = some r) {lo : Lo} (hg : GoodLo P (dropY Y nm) lo) {any : AnyF} (hA : AnyGood P (dropY Y nm) lo any) {L : Nat}
    {args : List SV} {h h' : Heap} {v : SV} (hd : roundD P any L lo r args h = some (v, h')) {Fc : Fence} {n : Nat} {ρ : Nm} {F : Fr} {w : World} {xs : List Value} {l : Loc} (hw : Wide Fc) (hy : Ctx ρ F Y) (hs : Sim ρ h F w) (hx : VRs ρ args xs) (hl : ρ nm = some l) :
    ∃ f tmps asg body, (Instr.yield l.blk ⟨xs⟩).run P w = .ok (.round l.blk f tmps asg body) w ∧ RoundIn Fc n P l.blk f tmps asg body w (fun | .returned x, w' => Post ρ F w h.next v h' x w' | _, _ => False) := by
  unfold roundD at hd
  split at hd
  case isFalse => cases hd
  rename_i hc
  split at hd
  case h_2 => cases hd
  rename_i e1 h1 hcode1
  split at hd
  case h_2 => cases hd
  rename_i e2 h2 hcode2
  cases hd
  obtain ⟨l2, rec, b1, b2, b3, b4, b5, b6, b7, b8⟩ := hy.bound nm r hfy
  rw [hl] at b1; cases b1
  have hctx : ∀ {ρ' : Nm} {F' : Fr}, ρ.le ρ' → F.le F' → Ctx ρ' F' (dropY Y nm) := fun hρ hF => by
    have := hy.mono hρ hF
    refine ⟨fun m r' hm => ?_, fun m m' r1 r2 l1 l2 k1 k2 k3 k4 he => ?_⟩
    · rw [findY_drop] at hm
      split at hm
      · cases hm
      · exact this.bound m r' hm
    · rw [findY_drop] at k1 k2
      split at k1
      · cases k1
      split at k2
      · cases k2
      exact this.apart m m' r1 r2 l1 l2 k1 k2 k3 k4 he
  have hlen : (⟨xs⟩ : Array Value).size = rec.params.size := by rw [b5]; simp [VRs_length hx, hc.1]
  refine ⟨rec.fn, _, rec.assign, rec.body, run_yield (hs.frame _ _ b2) hlen, ?_⟩
  refine roundIn_of_wpIn (hw.fn _) ?_
  rw [b6, b7]
  have hrel : Rel ρ r.nt (putPs r.e r.ps args) { tmps := (rec.params.zip ⟨xs⟩).foldl (fun tmps (t, a) => tmps.setIfInBounds t a) rec.tmps, defers := [] } := by
    have := putPs_rel r.ps hx hc.2 b8
    rw [b5]
    simpa using this
  refine code_sound hg hA (hw.inRound l.blk) (fun h => by cases h) r.asg _ ρ F w _ _ h .nrm e1 h1 hcode1 (hctx (Nm.le_refl _) (Fr.le_refl _)) hrel hs fun a1 w1 H => ?_
  obtain ⟨ρ1, F1, g1, gF, g2, _, g4, g5, g6⟩ := H
  have hb1 := gF _ _ b2
  refine ⟨_, run_beginRound (g4.frame _ _ hb1) b3, ?_⟩
  obtain ⟨o1, ho1⟩ : ∃ o1 : Loop, o1 = { rec with state := .busy } := ⟨_, rfl⟩
  rw [← ho1]
  have s1 := g4.turn hb1 (.loop o1)
  have hctx1 : Ctx ρ1 (F1.set l.blk (.loop o1)) (dropY Y nm) := by
    have hc0 := hctx g1.le gF
    have hne : ∀ m r' l', findY (dropY Y nm) m = some r' → ρ1 m = some l' → l'.blk ≠ l.blk := fun m r' l' hm hl' he => by
      have hm' : m ≠ nm ∧ findY Y m = some r' := by
        rw [findY_drop] at hm
        split at hm
        · cases hm
        · exact ⟨by assumption, hm⟩
      exact hm'.1 ((hy.mono g1.le gF).apart m nm r' r l' l hm'.2 hfy hl' (g1.le _ _ hl) he)
    refine ⟨fun m r' hm => ?_, hc0.apart⟩
    obtain ⟨l3, rec3, k1, k2, k3⟩ := hc0.bound m r' hm
    exact ⟨l3, rec3, k1, by rw [Fr.set_ne _ _ (hne m r' l3 hm k1)]; exact k2, k3⟩
  refine code_sound hg hA (hw.inRound l.blk) (fun h => by cases h) r.body _ ρ1 (F1.set l.blk (.loop o1)) _ e1 a1 h1 .nrm e2 h' hcode2 hctx1 g2 s1 fun a2 w2 H2 => ?_
  obtain ⟨ρ2, F2, k1, kF, k2, _, k4, k5, k6⟩ := H2
  have hb2 : F2 l.blk = some (.loop o1) := kF _ _ (Fr.set_self _ _ _)
  refine ⟨_, _, run_endRound none (k4.frame _ _ hb2), ρ2, g1.trans k1 g6, by simp [VR], ?_, ?_, by omega⟩
  · have s2 := k4.turn hb2 (.loop rec)
    have hrec : ({ o1 with state := if (none : Option Code).isNone then LoopState.ready else .done, pending := none } : Loop) = rec := by
      rw [ho1]
      cases rec
      simp only at b3 b4
      subst b3 b4
      rfl
    rw [hrec]
    refine s2.weaken fun b o hb => ?_
    by_cases he : b = l.blk
    · subst he; rw [b2] at hb; cases hb; exact Fr.set_self _ _ _
    · rw [Fr.set_ne _ _ he]
      refine kF _ _ ?_
      rw [Fr.set_ne _ _ he]
      exact gF _ _ hb
  · exact (g5.trans (setBlk_same _ _ _)).trans (k5.trans (setBlk_same _ _ _))

/-- EVERY CALL THAT THE EVALUATOR ANSWERS IS ANSWERED SO BY THE MODEL. -/
theorem lo_sound {X : Lo → CallF} (hX : XGood P X) {any : AnyF} (hA : ∀ Y lo, GoodLo P Y lo → AnyGood P Y lo any) {L : Nat}
    (hN : ∀ (f : Nat) (fn : Func), P.funcs[f]? = some fn → fn.name ≠ "runtime.NumGoroutine") : ∀ n Y, GoodLo P Y (loD P X any L n Y) := by
  intro n
  induction n with
  | zero => intro Y; exact ⟨fun f args h v h' hd => (by cases hd), fun nm args h v h' hd => (by cases hd), fun nm r f args h v h' hd => (by cases hd)⟩
  | succ n ih =>
    intro Y
    refine ⟨fun f args h v h' hd Fc k ρ F w xs hw hy hs hx => ?_, fun nm args h v h' hd Fc k ρ F w xs l hw hy hs hx hl => ?_, fun nm r f args h v h' hd Fc k ρ F w xs hw hy hs hx => ?_⟩
    · simp only [loD] at hd
      split at hd
      · rename_i r hXr
        cases hd
        exact hX Y _ (ih Y) f args h v h' hXr Fc k ρ F w xs hw hy hs hx
      · split at hd
        · rename_i hp
          obtain ⟨h1, h2⟩ := arena_sound (ih []) (hA [] _ (ih [])) hN hp hd (n := k) hw hs hx
          exact .inr ⟨_, _, _, h1, h2⟩
        · obtain ⟨h1, h2⟩ := body_sound (ih Y) (hA Y _ (ih Y)) hN hd (n := k) hw hy hs hx
          exact .inr ⟨_, _, _, h1, h2⟩
    · simp only [loD] at hd
      split at hd
      · rename_i r hfy
        exact round_sound hfy (ih _) (hA _ _ (ih _)) hd hw hy hs hx hl
      · cases hd
    · exact body_sound (ih _) (hA _ _ (ih _)) hN hd hw hy hs hx
end
end Go.D
