/- D, part 17: a region in any order: what holds between two operations. -/
import Derived.Test.YtpfhmnmpiagnnaaGreatDoorD16
namespace Go.D
open Go

theorem its_mem {ops : Array Oper} {t : It} (h : t ∈ itemsD ops.toList 0) : (itemsD ops.toList 0)[t.i]? = some t ∧ ops[t.i]? = some t.o ∧ t.m = predM t.o := by
  obtain ⟨i, hi⟩ := List.mem_iff_getElem?.1 h
  have h2 := hi
  rw [its_get] at hi
  cases ho : ops.toList[i]? with
  | none => rw [ho] at hi; cases hi
  | some o =>
    rw [ho] at hi
    cases hi
    simp only [Nat.zero_add] at h2 ⊢
    exact ⟨h2, by simpa using ho, trivial⟩
theorem its_of {ops : Array Oper} {i : Nat} {o : Oper} (h : ops[i]? = some o) : (itemsD ops.toList 0)[i]? = some ⟨i, o, predM o⟩ := by
  rw [its_get]
  have : ops.toList[i]? = some o := by simpa using h
  rw [this]
  simp
theorem its_at {ops : Array Oper} {i : Nat} {t : It} (h : (itemsD ops.toList 0)[i]? = some t) : t.i = i ∧ ops[i]? = some t.o ∧ t.m = predM t.o ∧ t ∈ itemsD ops.toList 0 := by
  have hm := List.mem_of_getElem? h
  rw [its_get] at h
  cases ho : ops.toList[i]? with
  | none => rw [ho] at h; cases h
  | some o =>
    rw [ho] at h
    cases h
    exact ⟨by simp, by simpa using ho, rfl, hm⟩
theorem its_len (ops : Array Oper) : (itemsD ops.toList 0).length = ops.size := by
  have key : ∀ (l : List Oper) (k : Nat), (itemsD l k).length = l.length := by
    intro l
    induction l with
    | nil => intro k; rfl
    | cons o os ih => intro k; simp [itemsD, ih]
  rw [key]; simp
theorem topo_pred {its : List It} : ∀ {ord : List Nat}, Topo its ord → ∀ {i : Nat} {t : It}, i ∈ ord → its[i]? = some t → ∀ p, has t.m p = true → p ∈ ord
  | [], _, i, t, hi, _, p, hp => by cases hi
  | j :: ord, ⟨h1, ⟨u, h2, h3⟩, h4⟩, i, t, hi, ht, p, hp => by
    rcases List.mem_cons.1 hi with rfl | hi
    · rw [h2] at ht; cases ht
      exact List.mem_cons_of_mem _ (h3 p hp)
    · exact List.mem_cons_of_mem _ (topo_pred h4 hi ht p hp)
theorem light_spec {ops : Array Oper} {its : List It} {t : It} (h : lightB ops its t = true) {d : Nat} (hd : t.o.dst = some d) :
    d ∉ t.o.looksAt ops ∧ ∀ u ∈ its, u.i ≠ t.i → (d ∈ u.o.looksAt ops → has u.m t.i = true) ∧ u.o.dst ≠ some d := by
  unfold lightB at h
  rw [hd] at h
  simp only [Bool.and_eq_true, Bool.not_eq_true', List.all_eq_true] at h
  obtain ⟨_, h1, h2⟩ := h
  refine ⟨by simpa using h1, fun u hu hne => ?_⟩
  have := h2 u hu
  simp only [Bool.or_eq_true, beq_iff_eq, Bool.and_eq_true, Bool.not_eq_true', bne_iff_ne] at this
  rcases this with h | ⟨h3, h4⟩
  · exact absurd h hne
  · refine ⟨fun hm => ?_, h4⟩
    rcases h3 with h3 | h3
    · rw [List.contains_iff_mem.2 hm] at h3; cases h3
    · exact h3

/-- What the evaluator has, beside what has come up. -/
structure Jd (P : Program) (ops : Array Oper) (nt base : Nat) (S : Nat → Prop) (ord : List Nat) (done : Nat) (owed : List Ow) (e : Env) (h : Heap) : Prop where
  doneOrd : ∀ i, has done i = true ↔ i ∈ ord
  topo : Topo (itemsD ops.toList 0) ord
  sub : ∀ i, S i → i ∈ ord
  owS : ∀ i ∈ ord, ¬ S i → ∃ u ∈ owed, u.i = i
  down : ∀ i t, S i → (itemsD ops.toList 0)[i]? = some t → ∀ p, has t.m p = true → S p
  ow : ∀ u ∈ owed, (itemsD ops.toList 0)[u.i]? = some ⟨u.i, u.o, predM u.o⟩ ∧ u.i ∈ ord ∧ lightB ops (itemsD ops.toList 0) ⟨u.i, u.o, predM u.o⟩ = true ∧
    lightD P ops e h (base + u.i) u.o = some (u.v, u.c) ∧ (∀ d, u.o.dst = some d → e.at d = u.v ∧ d < nt)
  nodup : ∀ u ∈ owed, ∀ u' ∈ owed, u.i = u'.i → u = u'
  nd : owed.Nodup
/-- What the world is. -/
structure Jw (nt n base : Nat) (ρ0 : Nm) (F : Fr) (w0 : World) (ds : List Deferred) (S : Nat → Prop) (owed : List Ow) (e : Env) (h : Heap) (a : Act) (w : World) (ρ : Nm) (F' : Fr) (e0 : Env) : Prop where
  ext : Ext base ρ0 ρ
  rel : Rel ρ nt e0 a
  agree : ∀ t, (∀ u ∈ owed, ¬ S u.i → u.o.dst ≠ some t) → e0.at t = e.at t
  sim : Sim ρ h F' w
  le : F.le F'
  pend : ∀ u ∈ owed, ∀ cs, u.c = some cs → S u.i → ∃ l o, ρ (base + u.i) = some l ∧ F' l.blk = some o ∧ F l.blk = none ∧ ObjRow ρ l cs o
  dis : ∀ u ∈ owed, ∀ u' ∈ owed, S u.i → S u'.i → u.c.isSome = true → u'.c.isSome = true → ∀ l l', ρ (base + u.i) = some l → ρ (base + u'.i) = some l' → l.blk = l'.blk → u.i = u'.i
  fresh : ∀ i, i < n → ¬ S i → ρ (base + i) = none
  defers : a.defers = ds
  same : Same w0 w
  room : base + n ≤ h.next

section
variable {P : Program} {ops : Array Oper} {nt base : Nat} {S : Nat → Prop} {ord : List Nat} {done : Nat} {owed : List Ow} {e : Env} {h : Heap}

theorem Env.at_set_ne {e : Env} {d : Option Nat} {t : Nat} {v : SV} (h : d ≠ some t) : (e.set d v).at t = e.at t := by
  cases d with
  | none => rfl
  | some d => rw [Env.at_set_some, if_neg fun he => h (by rw [he])]

/-- The evaluator does a light operation. -/
theorem Jd.light (J : Jd P ops nt base S ord done owed e h) {t : It} (ht : t ∈ itemsD ops.toList 0) (hf : freeB done t = true) (hl : lightB ops (itemsD ops.toList 0) t = true) (hfit : fitsD nt t.o.dst = true)
    {v : SV} {c : Option Chunk} (hv : lightD P ops e h (base + t.i) t.o = some (v, c)) : Jd P ops nt base S (t.i :: ord) (add done t.i) (⟨t.i, t.o, v, c⟩ :: owed) (e.set t.o.dst v) h := by
  obtain ⟨h1, h2, h3⟩ := its_mem ht
  obtain ⟨f1, f2⟩ := free_iff.1 hf
  have hni : t.i ∉ ord := fun hm => by rw [(J.doneOrd _).2 hm] at f1; cases f1
  have hnS : ¬ S t.i := fun hs => hni (J.sub _ hs)
  have ht' : t = ⟨t.i, t.o, predM t.o⟩ := by cases t; simp only at h3; subst h3; rfl
  constructor
  · intro i
    rw [has_add, Bool.or_eq_true, decide_eq_true_eq, J.doneOrd, List.mem_cons]
    exact ⟨fun h => h.elim .inr fun h => .inl h.symm, fun h => h.elim (fun h => .inr h.symm) .inl⟩
  · exact ⟨hni, ⟨t, h1, fun p hp => (J.doneOrd p).1 (f2 p hp)⟩, J.topo⟩
  · exact fun i hi => List.mem_cons_of_mem _ (J.sub i hi)
  · intro i hi hs
    rcases List.mem_cons.1 hi with rfl | hi
    · exact ⟨_, List.mem_cons_self .., rfl⟩
    · obtain ⟨u, g1, g2⟩ := J.owS i hi hs
      exact ⟨u, List.mem_cons_of_mem _ g1, g2⟩
  · exact J.down
  · intro u hu
    rcases List.mem_cons.1 hu with rfl | hu
    · simp only
      rw [← ht']
      refine ⟨h1, List.mem_cons_self .., hl, ?_, fun d hd => ⟨?_, fits_sound hfit d hd⟩⟩
      · rw [← hv]
        refine light_congr fun d hd => Env.at_set_ne fun hdst => ?_
        exact (light_spec hl hdst).1 hd
      · rw [hd, Env.at_set_some, if_pos rfl]
    · obtain ⟨g1, g2, g3, g4, g5⟩ := J.ow u hu
      have hne : t.i ≠ u.i := fun he => hni (he ▸ g2)
      refine ⟨g1, List.mem_cons_of_mem _ g2, g3, ?_, fun d hd => ⟨?_, (g5 d hd).2⟩⟩
      · rw [← g4]
        refine light_congr fun d hd => Env.at_set_ne fun hdst => hni ?_
        exact topo_pred J.topo g2 g1 _ (((light_spec hl hdst).2 _ (its_at g1).2.2.2 (fun he => hne he.symm)).1 hd)
      · rw [Env.at_set_ne]
        · exact (g5 d hd).1
        · exact ((light_spec g3 hd).2 t ht hne).2
  · intro u hu u' hu' he
    rcases List.mem_cons.1 hu with rfl | hu
    · rcases List.mem_cons.1 hu' with rfl | hu'
      · rfl
      · have he' : t.i = u'.i := he
        exact absurd (by rw [he']; exact (J.ow u' hu').2.1) hni
    · rcases List.mem_cons.1 hu' with rfl | hu'
      · have he' : u.i = t.i := he
        exact absurd (by rw [← he']; exact (J.ow u hu).2.1) hni
      · exact J.nodup u hu u' hu' he
  · exact List.nodup_cons.2 ⟨fun hm => hni (J.ow _ hm).2.1, J.nd⟩
theorem Jw.light (J : Jd P ops nt base S ord done owed e h) {n : Nat} {ρ0 : Nm} {F : Fr} {w0 : World} {ds : List Deferred} {a : Act} {w : World} {ρ : Nm} {F' : Fr} {e0 : Env}
    (W : Jw nt n base ρ0 F w0 ds S owed e h a w ρ F' e0) {t : It} (hf : freeB done t = true) {v : SV} {c : Option Chunk} :
    Jw nt n base ρ0 F w0 ds S (⟨t.i, t.o, v, c⟩ :: owed) (e.set t.o.dst v) h a w ρ F' e0 := by
  obtain ⟨f1, f2⟩ := free_iff.1 hf
  have hnS : ¬ S t.i := fun hs => by rw [(J.doneOrd _).2 (J.sub _ hs)] at f1; cases f1
  refine ⟨W.ext, W.rel, fun d hd => ?_, W.sim, W.le, fun u hu cs hc hs => ?_, fun u hu u' hu' hs hs' => ?_, W.fresh, W.defers, W.same, W.room⟩
  · rw [Env.at_set_ne (hd _ (List.mem_cons_self ..) hnS)]
    exact W.agree d fun u hu hs => hd u (List.mem_cons_of_mem _ hu) hs
  · rcases List.mem_cons.1 hu with rfl | hu
    · exact absurd hs hnS
    · exact W.pend u hu cs hc hs
  · rcases List.mem_cons.1 hu with rfl | hu
    · exact absurd hs hnS
    · rcases List.mem_cons.1 hu' with rfl | hu'
      · exact absurd hs' hnS
      · exact W.dis u hu u' hu' hs hs'

/-- The rows of operations that have come up come into the heap. -/
theorem mat_sound {F : Fr} {w : World} {ρ : Nm} : ∀ (us : List Ow) {h : Heap} {F' : Fr}, (∀ u ∈ us, ∀ u' ∈ us, u.i = u'.i → u = u') → us.Nodup → Sim ρ h F' w → F.le F' →
    (∀ u ∈ us, ∀ cs, u.c = some cs → ∃ l o, ρ (base + u.i) = some l ∧ F' l.blk = some o ∧ F l.blk = none ∧ ObjRow ρ l cs o) →
    (∀ u ∈ us, ∀ u' ∈ us, u.c.isSome = true → u'.c.isSome = true → ∀ l l', ρ (base + u.i) = some l → ρ (base + u'.i) = some l' → l.blk = l'.blk → u.i = u'.i) →
    ∃ F'', Sim ρ (putAll base us h) F'' w ∧ F.le F'' ∧ (∀ b o, F' b = some o → (∀ u ∈ us, u.c.isSome = true → ∀ l, ρ (base + u.i) = some l → l.blk ≠ b) → F'' b = some o) ∧ (putAll base us h).next = h.next
  | [], h, F', _, _, hs, hF, _, _ => ⟨F', hs, hF, fun b o hb _ => hb, rfl⟩
  | u :: us, h, F', hi, hnd, hs, hF, hp, hd => by
    have hnd' := List.nodup_cons.1 hnd
    have hi' : ∀ x ∈ us, ∀ y ∈ us, x.i = y.i → x = y := fun x hx y hy => hi x (List.mem_cons_of_mem _ hx) y (List.mem_cons_of_mem _ hy)
    rw [putAll]
    cases hc : u.c with
    | none =>
      simp only
      obtain ⟨F'', g1, g2, g3, g4⟩ := mat_sound us hi' hnd'.2 hs hF (fun x hx => hp x (List.mem_cons_of_mem _ hx)) (fun x hx y hy => hd x (List.mem_cons_of_mem _ hx) y (List.mem_cons_of_mem _ hy))
      refine ⟨F'', g1, g2, fun b o hb hall => g3 b o hb fun x hx => hall x (List.mem_cons_of_mem _ hx), g4⟩
    | some cs =>
      simp only
      obtain ⟨l, o, h1, h2, h3, h4⟩ := hp u (List.mem_cons_self ..) cs hc
      have hs' := hs.take h1 h2 h4
      have hF2 : F.le (fun b => if b = l.blk then none else F' b) := fun b o' hb => by
        have : b ≠ l.blk := fun he => by rw [he, h3] at hb; cases hb
        simp only [if_neg this]
        exact hF b o' hb
      obtain ⟨F'', g1, g2, g3, g4⟩ := mat_sound us hi' hnd'.2 hs' hF2 (fun x hx cs' hc' => by
          obtain ⟨l2, o2, k1, k2, k3, k4⟩ := hp x (List.mem_cons_of_mem _ hx) cs' hc'
          refine ⟨l2, o2, k1, ?_, k3, k4⟩
          have : l2.blk ≠ l.blk := fun he => by
            have := hd x (List.mem_cons_of_mem _ hx) u (List.mem_cons_self ..) (by rw [hc']; rfl) (by rw [hc]; rfl) l2 l k1 h1 he
            have := hi x (List.mem_cons_of_mem _ hx) u (List.mem_cons_self ..) this
            exact hnd'.1 (this ▸ hx)
          simp only [if_neg this]
          exact k2) (fun x hx y hy => hd x (List.mem_cons_of_mem _ hx) y (List.mem_cons_of_mem _ hy))
      refine ⟨F'', g1, g2, fun b o' hb hall => ?_, g4⟩
      refine g3 b o' ?_ fun x hx => hall x (List.mem_cons_of_mem _ hx)
      have : b ≠ l.blk := fun he => hall u (List.mem_cons_self ..) (by rw [hc]; rfl) l h1 he.symm
      simp only [if_neg this]
      exact hb
end
end Go.D
