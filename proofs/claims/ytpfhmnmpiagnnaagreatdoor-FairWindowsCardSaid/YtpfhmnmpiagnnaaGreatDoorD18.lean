/- D, part 18: a region in any order: one operation comes up. -/
import Derived.Test.YtpfhmnmpiagnnaaGreatDoorD17
namespace Go.D
open Go

section
variable {P : Program} {ops : Array Oper} {nt base : Nat} {S : Nat → Prop} {ord : List Nat} {done : Nat} {owed : List Ow} {e : Env} {h : Heap}
variable {ρ0 : Nm} {F : Fr} {w0 : World} {ds : List Deferred} {a : Act} {w : World} {ρ : Nm} {F' : Fr} {e0 : Env}

theorem Sim.lt {F : Fr} (hs : Sim ρ h F w) {b : Nat} {o : Obj} (hb : F b = some o) : b < w.heap.size := (Array.getElem?_eq_some_iff.1 (hs.frame b o hb)).1

theorem Jd.more (J : Jd P ops nt base S ord done owed e h) {u : Ow} (hu : u ∈ owed) (hpre : ∀ p, has (predM u.o) p = true → S p) : Jd P ops nt base (fun j => S j ∨ j = u.i) ord done owed e h := by
  obtain ⟨g1, g2, g3, g4, g5⟩ := J.ow u hu
  refine ⟨J.doneOrd, J.topo, fun i hi => ?_, fun i hi hs => J.owS i hi fun hs' => hs (.inl hs'), fun i t hi ht p hp => ?_, J.ow, J.nodup, J.nd⟩
  · rcases hi with hi | rfl
    · exact J.sub i hi
    · exact g2
  · rcases hi with hi | rfl
    · exact .inl (J.down i t hi ht p hp)
    · rw [g1] at ht; cases ht
      exact .inl (hpre p hp)

/-- A light operation comes up. -/
theorem exec_light (J : Jd P ops nt base S ord done owed e h) (W : Jw nt ops.size base ρ0 F w0 ds S owed e h a w ρ F' e0) {u : Ow} (hu : u ∈ owed) (hS : ¬ S u.i) (hpre : ∀ p, has (predM u.o) p = true → S p)
    {Fc : Fence} (hw : Wide Fc) {k : Nat} {Q : Exit → Act → World → Prop} {K : Act → World → Prop}
    (hK : ∀ a' w' ρ F' e0, Jw nt ops.size base ρ0 F w0 ds (fun j => S j ∨ j = u.i) owed e h a' w' ρ F' e0 → K a' w') : wpOpIn Fc k P ops Q u.i K a w := by
  obtain ⟨g1, g2, g3, g4, g5⟩ := J.ow u hu
  obtain ⟨_, ho, _, hm⟩ := its_at g1
  simp only at ho
  have hlt : u.i < ops.size := (Array.getElem?_eq_some_iff.1 ho).1
  have hlook : ∀ d ∈ u.o.looksAt ops, e0.at d = e.at d := fun d hd => W.agree d fun u' hu' hs' hdst => by
    obtain ⟨k1, k2, k3, k4, k5⟩ := J.ow u' hu'
    by_cases he : u.i = u'.i
    · have := J.nodup u hu u' hu' he
      subst this
      exact (light_spec g3 hdst).1 hd
    · exact hs' (hpre _ (((light_spec k3 hdst).2 _ hm he).1 hd))
  have hl0 : lightD P ops e0 h (base + u.i) u.o = some (u.v, u.c) := (light_congr hlook).trans g4
  have hfit : ∀ d, u.o.dst = some d → d < nt := fun d hd => (g5 d hd).2
  have hagree : ∀ t, (∀ u' ∈ owed, ¬ (S u'.i ∨ u'.i = u.i) → u'.o.dst ≠ some t) → (e0.set u.o.dst u.v).at t = e.at t := fun t ht => by
    by_cases hd : u.o.dst = some t
    · rw [hd, Env.at_set_some, if_pos rfl, (g5 t hd).1]
    · rw [Env.at_set_ne hd]
      refine W.agree t fun u' hu' hs' => ?_
      by_cases he : u'.i = u.i
      · rw [J.nodup u' hu' u hu he]; exact hd
      · exact ht u' hu' fun h => h.elim hs' he
  have hdf : ∀ x, (a.put u.o.dst x).defers = a.defers := fun x => by cases u.o.dst <;> rfl
  have hplain : ∀ x, VR ρ u.v x → u.c = none → K (a.put u.o.dst x) w := fun x hx hc => by
    refine hK _ w ρ F' (e0.set u.o.dst u.v) ⟨W.ext, W.rel.put hfit hx, hagree, W.sim, W.le, fun u' hu' cs hc' hs' => ?_, fun u1 hu1 u2 hu2 hs1 hs2 hc1 hc2 => ?_, fun i hi hs => W.fresh i hi fun h => hs (.inl h), (hdf x).trans W.defers, W.same, W.room⟩
    · rcases hs' with hs' | he
      · exact W.pend u' hu' cs hc' hs'
      · rw [J.nodup u' hu' u hu he, hc] at hc'; cases hc'
    · have key : ∀ u1 ∈ owed, (S u1.i ∨ u1.i = u.i) → u1.c.isSome = true → S u1.i := fun u1 hu1 hs hc1 => by
        rcases hs with hs | he
        · exact hs
        · rw [J.nodup u1 hu1 u hu he, hc] at hc1; cases hc1
      exact W.dis u1 hu1 u2 hu2 (key u1 hu1 hs1 hc1) (key u2 hu2 hs2 hc2) hc1 hc2
  unfold wpOpIn
  rw [ho]
  simp only
  rw [wanted_sound W.rel]
  unfold lightD at hl0
  split at hl0
  · rename_i hwant
    rw [if_pos hwant]
    refine ⟨fun f _ => hw.fn f, ?_⟩
    have hnd : ∀ c, u.o.op ≠ .defer c := fun c hc => by
      rw [hc] at hl0
      simp [stillD, newD] at hl0
    rw [Oper.semAt_plain Fc _ _ hnd]
    split at hl0
    · rename_i v hst
      simp only [Option.some.injEq, Prod.mk.injEq] at hl0
      obtain ⟨hv, hc⟩ := hl0
      obtain ⟨x, hx, hrun⟩ := still_sound (P := P) W.sim W.rel hst
      rw [hrun]
      exact hplain x (hv ▸ hx) hc.symm
    · split at hl0
      · rename_i v cs hn
        simp only [Option.some.injEq, Prod.mk.injEq] at hl0
        obtain ⟨hv, hc⟩ := hl0
        subst hv
        have hnm : ρ (base + u.i) = none := W.fresh u.i hlt hS
        obtain ⟨x, obj, dr, l, h1, h2, h3, h4⟩ := new_sound (P := P) (w := w) W.rel hnm hn
        rw [h1]
        have hle := Nm.le_add (l := l) hnm
        have hsim := (W.sim.aside hnm (by have := W.room; omega) l obj).heap_eq (w' := { w with heap := w.heap.push obj, drawn := dr }) rfl
        have hself : (ρ.add (base + u.i) l) (base + u.i) = some l := by unfold Nm.add; rw [if_pos rfl]
        have hother : ∀ i, i ≠ u.i → (ρ.add (base + u.i) l) (base + i) = ρ (base + i) := fun i hi => by unfold Nm.add; rw [if_neg (by omega)]
        have hold : ∀ u' ∈ owed, S u'.i → u'.c.isSome = true → ∃ l', ρ (base + u'.i) = some l' ∧ l'.blk < w.heap.size := fun u' hu' hs' hc' => by
          obtain ⟨cs', hcs'⟩ := Option.isSome_iff_exists.1 hc'
          obtain ⟨l', o', k1, k2, _⟩ := W.pend u' hu' cs' hcs' hs'
          exact ⟨l', k1, W.sim.lt k2⟩
        have hneS : ∀ u' ∈ owed, S u'.i → u'.i ≠ u.i := fun u' _ hs' he => hS (he ▸ hs')
        refine hK _ _ (ρ.add (base + u.i) l) _ (e0.set u.o.dst u.v) ⟨?_, (Rel.mono hle W.rel).put hfit h3, hagree, hsim, ?_, ?_, ?_, ?_, (hdf x).trans W.defers, W.same.trans ⟨rfl, rfl, rfl⟩, W.room⟩
        · exact W.ext.trans (Ext.add (k := base) hnm (by omega)) (Nat.le_refl _)
        · intro b o' hb
          have : b ≠ w.heap.size := Nat.ne_of_lt (W.sim.lt (W.le b o' hb))
          simp only [if_neg this]
          exact W.le b o' hb
        · intro u' hu' cs' hc' hs'
          by_cases he : u'.i = u.i
          · have := J.nodup u' hu' u hu he
            subst this
            rw [← hc] at hc'
            cases hc'
            refine ⟨l, obj, hself, by simp [h2], ?_, h4.obj (by simp [h2])⟩
            cases hb : F l.blk with
            | none => rfl
            | some o' => have := W.sim.lt (W.le _ _ hb); omega
          · have hs : S u'.i := hs'.resolve_right he
            obtain ⟨l', o', k1, k2, k3, k4⟩ := W.pend u' hu' cs' hc' hs
            have : l'.blk ≠ w.heap.size := Nat.ne_of_lt (W.sim.lt k2)
            exact ⟨l', o', hle _ _ k1, by simp only [if_neg this]; exact k2, k3, k4.mono hle⟩
        · intro u1 hu1 u2 hu2 hs1 hs2 hc1 hc2 l1 l2 hl1 hl2 hb
          by_cases he1 : u1.i = u.i
          · by_cases he2 : u2.i = u.i
            · rw [he1, he2]
            · obtain ⟨l', k1, k2⟩ := hold u2 hu2 (hs2.resolve_right he2) hc2
              rw [he1, hself] at hl1
              rw [hother _ he2, k1] at hl2
              cases hl1; cases hl2; omega
          · obtain ⟨l', k1, k2⟩ := hold u1 hu1 (hs1.resolve_right he1) hc1
            by_cases he2 : u2.i = u.i
            · rw [he2, hself] at hl2
              rw [hother _ he1, k1] at hl1
              cases hl1; cases hl2; omega
            · rw [hother _ he1] at hl1
              rw [hother _ he2] at hl2
              exact W.dis u1 hu1 u2 hu2 (hs1.resolve_right he1) (hs2.resolve_right he2) hc1 hc2 l1 l2 hl1 hl2 hb
        · intro i hi hs
          rw [hother i fun he => hs (.inr he)]
          exact W.fresh i hi fun h => hs (.inl h)
      · cases hl0
  · rename_i hwant
    rw [if_neg hwant]
    simp only [Option.some.injEq, Prod.mk.injEq] at hl0
    exact ⟨fun f _ => hw.fn f, hplain undef (hl0.1 ▸ VR_und ρ) hl0.2.symm⟩

/-- The evaluator does the one operation that may come up next. -/
theorem Jd.eff (J : Jd P ops nt base S ord done owed e h) {t : It} (ht : t ∈ itemsD ops.toList 0) (hni : t.i ∉ ord) (hpre : ∀ p, has t.m p = true → S p) {M : Nat} (hM : ∀ i, has M i = true → S i)
    {v : SV} {h2 : Heap} (hag : (owed.filter fun u => !has M u.i).all (againD P ops base (e.set t.o.dst v) h2) = true) :
    Jd P ops nt base (fun j => S j ∨ j = t.i) (t.i :: ord) (add done t.i) (owed.filter fun u => !has M u.i) (e.set t.o.dst v) h2 := by
  obtain ⟨h1, h2', h3⟩ := its_mem ht
  have hin : ∀ u ∈ owed.filter (fun u => !has M u.i), u ∈ owed := fun u hu => (List.mem_filter.1 hu).1
  constructor
  · intro i
    rw [has_add, Bool.or_eq_true, decide_eq_true_eq, J.doneOrd, List.mem_cons]
    exact ⟨fun h => h.elim .inr fun h => .inl h.symm, fun h => h.elim (fun h => .inr h.symm) .inl⟩
  · exact ⟨hni, ⟨t, h1, fun p hp => J.sub p (hpre p hp)⟩, J.topo⟩
  · intro i hi
    rcases hi with hi | rfl
    · exact List.mem_cons_of_mem _ (J.sub i hi)
    · exact List.mem_cons_self ..
  · intro i hi hs
    rcases List.mem_cons.1 hi with rfl | hi
    · exact absurd (.inr rfl) hs
    · obtain ⟨u, k1, k2⟩ := J.owS i hi fun h => hs (.inl h)
      refine ⟨u, List.mem_filter.2 ⟨k1, ?_⟩, k2⟩
      cases hh : has M u.i with
      | false => rfl
      | true => exact absurd (.inl (k2 ▸ hM _ hh)) hs
  · intro i t' hi ht' p hp
    rcases hi with hi | rfl
    · exact .inl (J.down i t' hi ht' p hp)
    · rw [h1] at ht'; cases ht'
      exact .inl (hpre p hp)
  · intro u hu
    obtain ⟨k1, k2, k3, k4, k5⟩ := J.ow u (hin u hu)
    have hne : t.i ≠ u.i := fun he => hni (he ▸ k2)
    refine ⟨k1, List.mem_cons_of_mem _ k2, k3, ?_, fun d hd => ⟨?_, (k5 d hd).2⟩⟩
    · have := List.all_eq_true.1 hag u hu
      unfold againD at this
      split at this
      · rename_i v' c' hl
        rw [Bool.and_eq_true] at this
        rw [hl, SV.beq_eq _ _ this.1, beqC_eq this.2]
      · cases this
    · rw [Env.at_set_ne ((light_spec k3 hd).2 t ht hne).2]
      exact (k5 d hd).1
  · exact fun u hu u' hu' => J.nodup u (hin u hu) u' (hin u' hu')
  · exact J.nd.filter _

theorem exec_eff {Y : List (Nat × LoopRec)} {lo : Lo} (hg : GoodLo P Y lo) (hy : Ctx ρ F Y) (J : Jd P ops nt base S ord done owed e h) (W : Jw nt ops.size base ρ0 F w0 ds S owed e h a w ρ F' e0) {t : It} (ht : t ∈ itemsD ops.toList 0) (hni : t.i ∉ ord)
    (hpre : ∀ p, has t.m p = true → S p) (hfit : fitsD nt t.o.dst = true) {M : Nat} (hM : ∀ i, has M i = true → S i) {v : SV} {h2 : Heap}
    (heff : effD P lo ops e (putAll base (owed.filter fun u => has M u.i) h) t.o = some (v, h2))
    {Fc : Fence} (hw : Wide Fc) {k : Nat} {Q : Exit → Act → World → Prop} {K : Act → World → Prop}
    (hK : ∀ a' w' ρ F' e0, Jw nt ops.size base ρ0 F w0 ds (fun j => S j ∨ j = t.i) (owed.filter fun u => !has M u.i) (e.set t.o.dst v) h2 a' w' ρ F' e0 → K a' w') : wpOpIn Fc k P ops Q t.i K a w := by
  obtain ⟨h1, ho, h3⟩ := its_mem ht
  have hfit := fits_sound hfit
  have hlook : ∀ d ∈ t.o.looksAt ops, e0.at d = e.at d := fun d hd => W.agree d fun u hu hs hdst => by
    obtain ⟨k1, k2, k3, k4, k5⟩ := J.ow u hu
    exact hs (hpre _ (((light_spec k3 hdst).2 t ht fun he => hni (he ▸ k2)).1 hd))
  have hinM : ∀ u ∈ owed.filter (fun u => has M u.i), u ∈ owed ∧ S u.i := fun u hu => by
    obtain ⟨k1, k2⟩ := List.mem_filter.1 hu
    exact ⟨k1, hM _ k2⟩
  have hout : ∀ u ∈ owed.filter (fun u => !has M u.i), u ∈ owed ∧ has M u.i = false := fun u hu => by
    obtain ⟨k1, k2⟩ := List.mem_filter.1 hu
    exact ⟨k1, by simpa using k2⟩
  obtain ⟨F2, m1, m2, m3, m4⟩ := mat_sound (base := base) (F := F) (w := w) (ρ := ρ) (owed.filter fun u => has M u.i) (h := h) (F' := F')
    (fun u hu u' hu' => J.nodup u (hinM u hu).1 u' (hinM u' hu').1) (J.nd.filter _) W.sim W.le (fun u hu cs hc => W.pend u (hinM u hu).1 cs hc (hinM u hu).2)
    (fun u hu u' hu' hc hc' => W.dis u (hinM u hu).1 u' (hinM u' hu').1 (hinM u hu).2 (hinM u' hu').2 hc hc')
  have heff0 : effD P lo ops e0 (putAll base (owed.filter fun u => has M u.i) h) t.o = some (v, h2) := (eff_congr hlook).trans heff
  have hdf : ∀ x, (a.put t.o.dst x).defers = a.defers := fun x => by cases t.o.dst <;> rfl
  have hfin : ∀ x w', Post ρ F2 w (putAll base (owed.filter fun u => has M u.i) h).next v h2 x w' → K (a.put t.o.dst x) w' := fun x w' hp => by
    obtain ⟨ρ', p1, p2, p3, p4, p5⟩ := hp
    rw [m4] at p1 p5
    have hroom := W.room
    have hlt : ∀ u ∈ owed, u.i < ops.size := fun u hu => (Array.getElem?_eq_some_iff.1 (its_at (J.ow u hu).1).2.1).1
    have hSu : ∀ u ∈ owed, (S u.i ∨ u.i = t.i) → S u.i := fun u hu hs => hs.resolve_right fun he => hni (he ▸ (J.ow u hu).2.1)
    have hlow : ∀ u ∈ owed, ρ' (base + u.i) = ρ (base + u.i) := fun u hu => p1.low _ (by have := hlt u hu; omega)
    refine hK _ w' ρ' F2 (e0.set t.o.dst v) ⟨W.ext.trans p1 (by omega), (Rel.mono p1.le W.rel).put hfit p2, fun d hd => ?_, p3, m2, fun u hu cs hc hs => ?_, fun u hu u' hu' hs hs' hc hc' l l' hl hl' => ?_, fun i hi hs => ?_, (hdf x).trans W.defers, W.same.trans p4, by omega⟩
    · by_cases hdst : t.o.dst = some d
      · rw [hdst, Env.at_set_some, Env.at_set_some, if_pos rfl, if_pos rfl]
      · rw [Env.at_set_ne hdst, Env.at_set_ne hdst]
        refine W.agree d fun u hu hs => ?_
        refine hd u (List.mem_filter.2 ⟨hu, ?_⟩) fun h => hs (hSu u hu h)
        cases hh : has M u.i with
        | false => rfl
        | true => exact absurd (hM _ hh) hs
    · obtain ⟨hu1, hu2⟩ := hout u hu
      obtain ⟨l, o, k1, k2, k3, k4⟩ := W.pend u hu1 cs hc (hSu u hu1 hs)
      refine ⟨l, o, p1.le _ _ k1, m3 _ _ k2 fun u' hu' hc' l' hl' he => ?_, k3, k4.mono p1.le⟩
      have := W.dis u hu1 u' (hinM u' hu').1 (hSu u hu1 hs) (hinM u' hu').2 (by rw [hc]; rfl) hc' l l' k1 hl' he.symm
      have h5 := (List.mem_filter.1 hu').2
      rw [← this, hu2] at h5
      cases h5
    · rw [hlow u (hout u hu).1] at hl
      rw [hlow u' (hout u' hu').1] at hl'
      exact W.dis u (hout u hu).1 u' (hout u' hu').1 (hSu u (hout u hu).1 hs) (hSu u' (hout u' hu').1 hs') hc hc' l l' hl hl'
    · rw [p1.low _ (by omega)]
      exact W.fresh i hi fun h => hs (.inl h)
  unfold wpOpIn
  rw [ho]
  simp only
  rw [wanted_sound W.rel]
  unfold effD at heff0
  split at heff0
  · rename_i hwant
    rw [if_pos hwant]
    exact do_sound hg hw (hy.mono (Nm.le_refl _) m2) W.rel m1 heff0 hfin
  · rename_i hwant
    rw [if_neg hwant]
    simp only [Option.some.injEq, Prod.mk.injEq] at heff0
    obtain ⟨rfl, rfl⟩ := heff0
    exact ⟨fun f _ => hw.fn f, hfin undef w ⟨ρ, Ext.refl _ _, VR_und ρ, m1, Same.refl _, Nat.le_refl _⟩⟩
end
end Go.D
