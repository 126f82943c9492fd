/- D, part 12: an operation that is no call of a Go function. -/
import Derived.Test.YtpfhmnmpiagnnaaGreatDoorD11
namespace Go.D
open Go

/-! ### The names go up -/
theorem storeN_next {h h' : Heap} {nm off : Nat} {vs : List SV} (hd : storeN h nm off vs = some h') : h.next ≤ h'.next := by
  unfold storeN at hd
  split at hd
  · split at hd
    · cases hd; exact Nat.le_refl _
    · cases hd
  · cases hd
theorem storeT_next {P : Program} {h h' : Heap} {t nm off : Nat} {v : SV} (hd : storeT P h t nm off v = some h') : h.next ≤ h'.next := by
  unfold storeT at hd
  split at hd
  · exact storeN_next hd
  · cases hd
theorem movedD_next {h h' : Heap} {nm off len n es : Nat} {new : List SV} {v : SV} (hd : movedD h nm off len n es new = some (v, h')) : h.next ≤ h'.next := by
  unfold movedD at hd
  split at hd
  · cases hd; exact Nat.le_succ _
  · cases hd
theorem appendD_next {P : Program} {h h' : Heap} {el : TypeId} {s x v : SV} (hd : appendD P h el s x = some (v, h')) : h.next ≤ h'.next := by
  unfold appendD at hd
  split at hd
  case h_2 => cases hd
  rename_i i z n _ _ _
  simp only at hd
  split at hd
  · cases hd
  split at hd
  · cases hd
  split at hd
  · cases hd
  split at hd
  · split at hd
    · cases hd; exact Nat.le_refl _
    · split at hd
      · cases hd; exact Nat.le_succ _
      · cases hd
  · split at hd
    · cases hd
    split at hd
    · cases hd
    split at hd
    · cases hd; exact Nat.le_refl _
    split at hd
    · split at hd
      · cases hd
      · exact movedD_next hd
    · split at hd
      · rename_i hm
        cases hd
        exact Nat.le_trans (movedD_next hm) (Nat.le_refl _)
      · cases hd
  · cases hd
theorem copyD_next {P : Program} {h h' : Heap} {el : TypeId} {s x v : SV} (hd : copyD P h el s x = some (v, h')) : h.next ≤ h'.next := by
  unfold copyD at hd
  split at hd
  case h_2 => cases hd
  simp only at hd
  split at hd
  · cases hd
  split at hd
  · cases hd; exact Nat.le_refl _
  · split at hd
    · split at hd
      · rename_i hm
        cases hd; exact storeN_next hm
      · cases hd
    · cases hd
  · cases hd
theorem clearD_next {P : Program} {h h' : Heap} {el : TypeId} {x : SV} (hd : clearD P h el x = some h') : h.next ≤ h'.next := by
  unfold clearD at hd
  split at hd
  · cases hd; exact Nat.le_refl _
  · split at hd
    · split at hd
      · exact storeN_next hd
      · cases hd
    · cases hd
  · cases hd

section
variable {P : Program} {ρ : Nm} {w : World}

/-- What an operation's run is. -/
def Ran (ρ : Nm) (k : Nat) (h' : Heap) (F : Fr) (w : World) (v : SV) (r : Result Next) : Prop :=
  ∃ ρ' x w', Ext k ρ ρ' ∧ VR ρ' v x ∧ Sim ρ' h' F w' ∧ Same w w' ∧ k ≤ h'.next ∧ (r = .ok (.value x) w' ∨ (r = .ok .skip w' ∧ x = undef))

theorem VR_und (ρ : Nm) : VR ρ und undef := by
  simp only [und, VR]
  exact ⟨[], VRs_nil', rfl⟩

theorem acts_ran {h' : Heap} {F : Fr} {v : SV} {k : Nat} {s : Sem Value} (hs : Acts ρ k h' F w v s P) (hk : k ≤ h'.next) {r : Result Next}
    (hr : ∀ x w', s.run P w = .ok x w' → r = .ok (.value x) w') : Ran ρ k h' F w v r := by
  obtain ⟨ρ', x, w', h1, h2, h3, h4, h5⟩ := hs
  exact ⟨ρ', x, w', h1, h2, h4, h5, hk, .inl (hr x w' h3)⟩

theorem act_sound {h h' : Heap} {F : Fr} (hs : Sim ρ h F w) {nt : Nat} {e : Env} {a : Act} (hr : Rel ρ nt e a) {o : Oper} {v : SV} {t : List Nat} (hd : actD P e h o.op = some (v, h', t)) :
    Ran ρ h.next h' F w v ((execOp a.eval o).run P w) := by
  obtain ⟨dst, op, type, pos, after, guard⟩ := o
  simp only at hd
  cases op <;> simp only [actD] at hd <;> try (cases hd; done)
  case store t x y =>
    split at hd
    · rename_i nm off u hx hy
      split at hd
      · rename_i h2 hst
        cases hd
        obtain ⟨l, hl, hxe⟩ := VR_ptr (ev_sound hr hx)
        obtain ⟨w', h1, h2, h3⟩ := storeT_sound (P := P) hs hst (ev_sound hr hy) hl
        refine ⟨ρ, undef, w', Ext.refl _ _, VR_und ρ, h2, h3, storeT_next hst, .inr ⟨?_, rfl⟩⟩
        simp [execOp, hxe, Instr.storeAt, Instr.sureAddr, h1]
      · cases hd
    · cases hd
  case call c =>
    obtain ⟨callee, args, argTypes⟩ := c
    simp only at hd
    cases callee with
    | value f => cases hd
    | invoke r m => cases hd
    | builtin b =>
      have hargs := eval_list a.eval args
      cases b <;> simp only at hd <;> try (cases hd; done)
      case append =>
        split at hd
        · rename_i s x el hu htt
          split at hd
          · cases hd
          · rename_i d hd1 hd2
            split at hd
            · rename_i v2 h2 hap
              cases hd
              have hl := evs_sound hr hu
              obtain ⟨x1, ys, he, hx1, hys⟩ := VRs_cons hl
              obtain ⟨x2, zs, he2, hx2, hzs⟩ := VRs_cons hys
              rw [he2, VRs_nil hzs] at he
              cases hat : argTypes[0]? with
              | none => rw [hat] at htt; cases htt
              | some sT =>
                rw [hat] at htt
                have hut : P.underlying sT = some (.slice el) := by
                  simp only [Option.bind_some, telem] at htt
                  split at htt
                  · cases htt; assumption
                  · cases htt
                refine acts_ran (append_sound (P := P) (ty := type) hs hap hx1 hx2 hat hut ?_) (appendD_next hap) ?_
                · intro t ht
                  rw [ht] at hd2
                  exact ⟨d, hd2, fun k hk => hd1 k hk⟩
                · intro x w' hrun
                  simp [execOp, resolve, invoke, builtin, hargs, he, hrun]
            · cases hd
          · cases hd
        · cases hd
      case copy =>
        split at hd
        · rename_i s x el hu htt
          split at hd
          · rename_i v2 h2 hap
            cases hd
            have hl := evs_sound hr hu
            obtain ⟨x1, ys, he, hx1, hys⟩ := VRs_cons hl
            obtain ⟨x2, zs, he2, hx2, hzs⟩ := VRs_cons hys
            rw [he2, VRs_nil hzs] at he
            cases hat : argTypes[0]? with
            | none => rw [hat] at htt; cases htt
            | some sT =>
              rw [hat] at htt
              have hut : P.underlying sT = some (.slice el) := by
                simp only [Option.bind_some, telem] at htt
                split at htt
                · cases htt; assumption
                · cases htt
              refine acts_ran (copy_sound (P := P) (ty := type) hs hap hx1 hx2 hat hut) (copyD_next hap) ?_
              intro x w' hrun
              simp [execOp, resolve, invoke, builtin, hargs, he, hrun]
          · cases hd
        · cases hd
      case clear =>
        split at hd
        · rename_i s el hu htt
          split at hd
          · rename_i h2 hap
            cases hd
            have hl := evs_sound hr hu
            obtain ⟨x1, ys, he, hx1, hys⟩ := VRs_cons hl
            rw [VRs_nil hys] at he
            cases hat : argTypes[0]? with
            | none => rw [hat] at htt; cases htt
            | some sT =>
              rw [hat] at htt
              have hut : P.underlying sT = some (.slice el) := by
                simp only [Option.bind_some, telem] at htt
                split at htt
                · cases htt; assumption
                · cases htt
              refine acts_ran (clear_sound (P := P) (ty := type) hs hap hx1 hat hut) (clearD_next hap) ?_
              intro x w' hrun
              simp [execOp, resolve, invoke, builtin, hargs, he, hrun]
          · cases hd
        · cases hd

theorem rest_sound {h h' : Heap} {F : Fr} (hs : Sim ρ h F w) {nt : Nat} {e : Env} {a : Act} (hr : Rel ρ nt e a) {o : Oper} {v : SV} (hd : restD P e h o.op = some (v, h')) :
    Ran ρ h.next h' F w v ((execOp a.eval o).run P w) := by
  unfold restD at hd
  split at hd
  · rename_i v2 hst
    cases hd
    obtain ⟨x, h1, h2⟩ := still_sound (P := P) hs hr hst
    exact ⟨ρ, x, w, Ext.refl _ _, h1, hs, Same.refl _, Nat.le_refl _, .inl h2⟩
  · split at hd
    · rename_i v2 cs hn
      cases hd
      have h0 := hs.fresh h.next (Nat.le_refl _)
      obtain ⟨x, obj, dr, l, h1, h2, h3, h4⟩ := new_sound (P := P) (w := w) hr h0 hn
      exact ⟨_, x, { w with heap := w.heap.push obj, drawn := dr }, Ext.add h0 (Nat.le_refl _), h3, (hs.new h2 h4).heap_eq rfl, ⟨rfl, rfl, rfl⟩, Nat.le_succ _, .inl h1⟩
    · split at hd
      · rename_i v2 h2 t hact
        cases hd
        exact act_sound hs hr hact
      · cases hd
end
end Go.D
