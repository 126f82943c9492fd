/- D, part 7: an operation of 'stillD' is the model's. -/
import Derived.Test.YtpfhmnmpiagnnaaGreatDoorD6
namespace Go.D
open Go

section
variable {P : Program} {ρ : Nm} {w : World}

theorem ret_value {s : Sem Value} {x : Value} {w' : World} (h : s.run P w = .ok x w') : ((do pure (.value (← s)) : Sem Next)).run P w = .ok (.value x) w' := by
  simp [h]
theorem eval_list (f : Operand → Value) (xs : Array Operand) : xs.map f = ⟨xs.toList.map f⟩ := by
  apply Array.ext'
  simp
theorem tfield_sound {t : TypeId} {i : Nat} {f : Field} (h : tfield P t i = some f) : ∃ fs, P.underlying t = some (.struct fs) ∧ fs[i]? = some f := by
  unfold tfield at h
  split at h
  · exact ⟨_, by assumption, h⟩
  · cases h
theorem nilsD_sound {op : BinOp} {t : TypeId} {x y : Operand} {a b v : SV} (hn : nilsD P op t x y a b = some v) {X Y : Value} (hX : VR ρ a X) (hY : VR ρ b Y) :
    ∃ z, VR ρ v z ∧ (do eqGuard op t x y X Y; binOp op t X Y : Sem Value).run P w = .ok z w := by
  unfold nilsD at hn
  split at hn
  case h_2 => cases hn
  split at hn
  case isFalse => cases hn
  rename_i hc
  split at hn
  case h_2 => cases hn
  rename_i ms hu
  have hX : X = .nilIface := by simpa only [VR] using hX
  have hY : Y = .nilIface := by simpa only [VR] using hY
  subst hX hY
  have hg : ∀ op, (eqGuard op t x y .nilIface .nilIface).run P w = .ok () w := fun op => by
    cases x <;> cases y <;> first | (simp [isConst] at hc; done) | (cases op <;> rfl)
  have he : (Op.equal t .nilIface .nilIface).run P w = .ok true w := by
    unfold Op.equal
    have : ∀ d, (Op.equalIn (d + 1) t .nilIface .nilIface).run P w = .ok true w := fun d => by
      rw [Op.equalIn, Sem.run_bind, run_underlying hu, Result.andThen_ok]
      rfl
    exact this _
  split at hn
  · cases hn
    refine ⟨.bool true, by simp only [VR], ?_⟩
    rw [Sem.run_bind, hg, Result.andThen_ok, binOp_eql_of rfl, Sem.run_bind, he]
    rfl
  · cases hn
    refine ⟨.bool false, by simp only [VR], ?_⟩
    rw [Sem.run_bind, hg, Result.andThen_ok, binOp_neq_of rfl, Sem.run_bind, he]
    rfl
  · cases hn
theorem still_sound {h : Heap} {F : Fr} (hs : Sim ρ h F w) {nt : Nat} {e : Env} {a : Act} (hr : Rel ρ nt e a) {o : Oper} {v : SV} (hst : stillD P e h o.op = some v) :
    ∃ x, VR ρ v x ∧ (execOp a.eval o).run P w = .ok (.value x) w := by
  obtain ⟨dst, op, type, pos, after, guard⟩ := o
  simp only at hst
  cases op <;> simp only [stillD] at hst <;> try (cases hst; done)
  case move x => exact ⟨_, ev_sound hr hst, rfl⟩
  case assign x => exact ⟨_, ev_sound hr hst, rfl⟩
  case pick c p q =>
    split at hst
    · rename_i t ht
      have hc : a.eval c = .bool t := by have := ev_sound hr ht; simpa only [VR] using this
      cases t
      · exact ⟨_, ev_sound hr hst, by simp [execOp, hc, asBool]⟩
      · exact ⟨_, ev_sound hr hst, by simp [execOp, hc, asBool]⟩
    · cases hst
  case build t parts =>
    split at hst
    · rename_i z ps hz hps
      split at hst
      · rename_i hk
        split at hst
        · rename_i cs hcs
          cases hst
          obtain ⟨x, h1, h2⟩ := build_sound (w := w) hr hz hps hk hcs
          exact ⟨x, h1, ret_value h2⟩
        · cases hst
      · cases hst
    · cases hst
  case load t x =>
    split at hst
    · rename_i nm off hv
      obtain ⟨l, hl, he⟩ := VR_ptr (ev_sound hr hv)
      obtain ⟨y, h1, h2⟩ := loadT_sound (P := P) hs hst hl
      exact ⟨y, h1, ret_value (by simp only [he, Instr.loadAt, Instr.sureAddr, Sem.run_bind, Sem.run_pure, Result.andThen_ok, h2])⟩
    · cases hst
  case nilCheck x =>
    split at hst
    · rename_i nm off hv
      cases hst
      have := ev_sound hr hv
      obtain ⟨l, hl, he⟩ := VR_ptr this
      exact ⟨_, this, by simp [execOp, he]⟩
    · rename_i t u hv
      cases hst
      have := ev_sound hr hv
      obtain ⟨l, hl, he⟩ := VR_ifc this
      exact ⟨_, this, by simp [execOp, he]⟩
    · rename_i f p q hv
      cases hst
      have := ev_sound hr hv
      obtain ⟨l, l', hl, hl', he⟩ := VR_fn this
      exact ⟨_, this, by simp [execOp, he]⟩
    · cases hst
  case binOp op t x y ty =>
    split at hst
    · rename_i u v' hu hv
      split at hst
      · rename_i v2 hn
        cases hst
        obtain ⟨z, h1, h2⟩ := nilsD_sound (P := P) (w := w) (ρ := ρ) hn (ev_sound hr hu) (ev_sound hr hv)
        exact ⟨z, h1, ret_value h2⟩
      · obtain ⟨z, h1, h2⟩ := binD_sound (P := P) (w := w) hst (ev_sound hr hu) (ev_sound hr hv) x y
        exact ⟨z, h1, ret_value h2⟩
    · cases hst
  case unOp op t x =>
    split at hst
    · rename_i u hu
      obtain ⟨z, h1, h2⟩ := unD_sound (P := P) (w := w) hst (ev_sound hr hu)
      exact ⟨z, h1, ret_value h2⟩
    · cases hst
  case convert s d x =>
    split at hst
    · rename_i u td hu htd
      obtain ⟨z, h1, h2⟩ := convD_sound (P := P) hs hst (ev_sound hr hu) ⟨_, htd⟩
      exact ⟨z, h1, ret_value h2⟩
    · cases hst
  case makeInterface t x =>
    split at hst
    · rename_i u d hu hd
      have hx := ev_sound hr hu
      have hne : v = .ifc t u ∧ P.concrete t = true := by
        unfold Program.concrete
        rw [hd]
        split at hst
        · cases hst
        · rename_i hn
          cases hst
          refine ⟨rfl, ?_⟩
          split
          · rename_i ms hh; cases hh; exact absurd rfl (hn _)
          · rename_i hh; cases hh
          · rfl
      obtain ⟨rfl, hc⟩ := hne
      refine ⟨.iface t (a.eval x), by simp only [VR]; exact ⟨_, hx, rfl⟩, ret_value (run_makeInterface w t _ hc)⟩
    · cases hst
  case makeFunc f p q =>
    split at hst
    · rename_i u v' hu hv
      cases hst
      refine ⟨.func f ⟨p.toList.map a.eval⟩ ⟨q.toList.map a.eval⟩, by simp only [VR]; exact ⟨_, _, evs_sound hr hu, evs_sound hr hv, rfl⟩, ?_⟩
      simp only [execOp, Instr.makeFunc, eval_list a.eval p, eval_list a.eval q]
      rfl
    · cases hst
  case slice t x lo hi mx =>
    split at hst
    · rename_i u hu
      obtain ⟨z, h1, h2⟩ := sliceD_sound (P := P) hs hr hst (ev_sound hr hu)
      exact ⟨z, h1, ret_value h2⟩
    · cases hst
  case fieldAddr t x i =>
    split at hst
    · rename_i nm off f hv hf
      split at hst
      · rename_i n hn
        split at hst
        · rename_i hpos
          cases hst
          obtain ⟨l, hl, he⟩ := VR_ptr (ev_sound hr hv)
          obtain ⟨fs, hfs, hfi⟩ := tfield_sound hf
          refine ⟨.pointer (some ⟨l.blk, l.base + (off + f.offset), none⟩), by simp only [VR]; exact ⟨l, hl, rfl⟩, ret_value ?_⟩
          have : ¬ n = 0 := by omega
          simp [he, Instr.fieldAt, run_underlying hfs, hfi, Instr.sureAddr, fieldPlace, run_sizeOf hn, this, add_none, Nat.add_assoc]
        · cases hst
      · cases hst
    · cases hst
  case field t x i =>
    split at hst
    · rename_i cs f hv hf
      obtain ⟨l, hl, he⟩ := VR_agg (ev_sound hr hv)
      obtain ⟨fs, hfs, hfi⟩ := tfield_sound hf
      obtain ⟨y, h1, h2⟩ := partT_sound (P := P) (w := w) hl hst
      exact ⟨y, h1, ret_value (by simp [he, Instr.field, run_underlying hfs, hfi, asAgg, h2])⟩
    · cases hst
  case indexAddr t x i =>
    split at hst
    · rename_i nm off len es cp k i' hv hi
      split at hst
      · rename_i el hel
        split at hst
        · rename_i hc
          cases hst
          obtain ⟨l, A, hl, he, hA, _⟩ := VR_slc (ev_sound hr hv)
          have hie : a.eval i = .int k i' := by have := ev_sound hr hi; simpa only [VR] using this
          have hA' : A = ⟨l.blk, l.base + off, none⟩ := by
            rcases hA with h0 | ⟨h0, _⟩
            · exact h0
            · omega
          refine ⟨.pointer (some ⟨l.blk, l.base + (off + i'.toNat * es), none⟩), by simp only [VR]; exact ⟨l, hl, rfl⟩, ret_value ?_⟩
          have hb : 0 ≤ i' ∧ i' < (len : Int) := hc.2
          simp [he, hie, Instr.indexAt, asIntOf, run_underlying (telem_sound hel), hb, run_sizeOf hc.1, hA', add_none, Nat.add_assoc]
        · cases hst
      · cases hst
    · rename_i nm off k i' hv hi
      split at hst
      · rename_i n el hel
        split at hst
        · rename_i es hes
          split at hst
          · rename_i hb
            cases hst
            obtain ⟨l, hl, he⟩ := VR_ptr (ev_sound hr hv)
            have hie : a.eval i = .int k i' := by have := ev_sound hr hi; simpa only [VR] using this
            refine ⟨.pointer (some ⟨l.blk, l.base + (off + i'.toNat * es), none⟩), by simp only [VR]; exact ⟨l, hl, rfl⟩, ret_value ?_⟩
            simp [he, hie, Instr.indexAt, asIntOf, run_underlying (tarr_sound hel), Instr.sureAddr, hb, run_sizeOf hes, add_none, Nat.add_assoc]
          · cases hst
        · cases hst
      · cases hst
    · cases hst
  case index t x i =>
    split at hst
    · rename_i cs k i' hv hi
      split at hst
      · rename_i n el hel
        split at hst
        · rename_i es hes
          split at hst
          · rename_i hb
            obtain ⟨l, hl, he⟩ := VR_agg (ev_sound hr hv)
            have hie : a.eval i = .int k i' := by have := ev_sound hr hi; simpa only [VR] using this
            obtain ⟨y, h1, h2⟩ := partT_sound (P := P) (w := w) hl hst
            exact ⟨y, h1, ret_value (by simp [he, hie, Instr.index, asIntOf, run_underlying (tarr_sound hel), hb, run_sizeOf hes, h2])⟩
          · cases hst
        · cases hst
      · cases hst
    · rename_i s k i' hv hi
      split at hst
      · rename_i hu
        split at hst
        · rename_i h0
          split at hst
          · rename_i b hb
            cases hst
            have he : a.eval x = .string ⟨⟨s⟩⟩ := by have := ev_sound hr hv; simpa only [VR] using this
            have hie : a.eval i = .int k i' := by have := ev_sound hr hi; simpa only [VR] using this
            refine ⟨_, rfl, ret_value ?_⟩
            have hb' : (ByteArray.mk ⟨s⟩)[i'.toNat]? = some b := by
              have hlt : i'.toNat < s.length := by
                rcases Nat.lt_or_ge i'.toNat s.length with h' | h'
                · exact h'
                · rw [List.getElem?_eq_none h'] at hb; cases hb
              have hsz : i'.toNat < (ByteArray.mk ⟨s⟩).size := by simpa [ByteArray.size] using hlt
              rw [getElem?_pos (ByteArray.mk ⟨s⟩) i'.toNat hsz]
              rw [List.getElem?_eq_getElem hlt] at hb
              simpa [ByteArray.getElem_eq_getElem_data] using hb
            simp only [he, hie, Instr.index, asIntOf, Sem.run_bind, Sem.run_pure, Result.andThen_ok, run_underlying hu, h0, if_true, hb']
          · cases hst
        · cases hst
      · cases hst
    · cases hst
  case extract x i =>
    split at hst
    · rename_i vs hv
      obtain ⟨l, hl, he⟩ := VR_tup (ev_sound hr hv)
      obtain ⟨y, h1, h2⟩ := VRs_get hl hst
      refine ⟨y, h2, ret_value ?_⟩
      simp [he, Instr.extract, h1]
    · cases hst
  case call c =>
    obtain ⟨callee, args, argTypes⟩ := c
    simp only at hst
    cases callee with
    | value f => cases hst
    | invoke r m => cases hst
    | builtin b =>
      have hargs := eval_list a.eval args
      cases b <;> simp only at hst <;> try (cases hst; done)
      case len =>
        split at hst
        · rename_i u t' hu htt
          have hl := evs_sound hr hu
          obtain ⟨x1, ys, he, hx1, hys⟩ := VRs_cons hl
          rw [VRs_nil hys] at he
          cases hat : argTypes[0]? with
          | none => rw [hat] at htt; cases htt
          | some at0 =>
            rw [hat] at htt
            have hut : P.underlying at0 = some (.slice t') := htt
            split at hst
            · cases hst
              obtain ⟨l, A, _, rfl, _⟩ := VR_slc hx1
              exact ⟨_, rfl, by simp [execOp, resolve, invoke, builtin, hargs, he, Builtin.len_, hat, run_underlying hut, goInt]⟩
            · cases hst
              cases hx1
              exact ⟨_, rfl, by simp [execOp, resolve, invoke, builtin, hargs, he, Builtin.len_, hat, run_underlying hut, goInt]⟩
            · cases hst
        · rename_i s hu htt
          cases hst
          have hl := evs_sound hr hu
          obtain ⟨x1, ys, he, hx1, hys⟩ := VRs_cons hl
          rw [VRs_nil hys] at he
          cases hat : argTypes[0]? with
          | none => rw [hat] at htt; cases htt
          | some at0 =>
            rw [hat] at htt
            have hut : P.underlying at0 = some .string := htt
            cases hx1
            have hsz : (ByteArray.mk ⟨s⟩).size = s.length := by simp [ByteArray.size]
            exact ⟨_, rfl, by simp only [execOp, resolve, invoke, builtin, hargs, he, Builtin.len_, hat, Sem.run_bind, Sem.run_pure, Result.andThen_ok, List.getElem?_toArray, List.getElem?_cons_zero, run_underlying hut, goInt, hsz]⟩
        · cases hst
      case cap =>
        split at hst
        · rename_i t' hu htt
          cases hst
          have hl := evs_sound hr hu
          obtain ⟨x1, ys, he, hx1, hys⟩ := VRs_cons hl
          rw [VRs_nil hys] at he
          cases hat : argTypes[0]? with
          | none => rw [hat] at htt; cases htt
          | some at0 =>
            rw [hat] at htt
            have hut : P.underlying at0 = some (.slice t') := htt
            cases hx1
            exact ⟨_, rfl, by simp [execOp, resolve, invoke, builtin, hargs, he, Builtin.cap_, hat, run_underlying hut, goInt]⟩
        · cases hst
      case min =>
        split at hst
        · rename_i u us hu
          have hl := evs_sound hr hu
          obtain ⟨x1, ys, he, hx1, hys⟩ := VRs_cons hl
          obtain ⟨z, h1, h2⟩ := foldMin_sound (P := P) (w := w) us u v x1 ys hst hx1 hys
          refine ⟨z, h1, ?_⟩
          simp only [execOp, resolve, invoke, builtin, hargs, he, Builtin.min_, Sem.run_bind, Sem.run_pure, Result.andThen_ok]
          simp only [Bool.false_eq_true, if_false] at h2
          rw [h2]; rfl
        · cases hst
      case max =>
        split at hst
        · rename_i u us hu
          have hl := evs_sound hr hu
          obtain ⟨x1, ys, he, hx1, hys⟩ := VRs_cons hl
          obtain ⟨z, h1, h2⟩ := foldMin_sound (P := P) (w := w) us u v x1 ys hst hx1 hys
          refine ⟨z, h1, ?_⟩
          simp only [execOp, resolve, invoke, builtin, hargs, he, Builtin.max_, Sem.run_bind, Sem.run_pure, Result.andThen_ok]
          simp only [if_true] at h2
          rw [h2]; rfl
        · cases hst
end
end Go.D
