/- D, part 19: a region in any order is sound. -/
import Derived.Test.YtpfhmnmpiagnnaaGreatDoorD18
namespace Go.D
open Go

section
variable {P : Program} {Y : List (Nat × LoopRec)} {lo : Lo} {ops : Array Oper} {nt base : Nat} {h : Heap}
variable {ρ0 : Nm} {F : Fr} {w0 : World} {ds : List Deferred} {a : Act} {w : World} {ρ : Nm} {F' : Fr} {e0 : Env}

/-- Up to the next point where no light operation is left. -/
theorem norm {S : Nat → Prop} {fin : Env × Heap} : ∀ (m : Nat) {ord : List Nat} {done : Nat} {owed : List Ow} {e : Env}, Jd P ops nt base S ord done owed e h → Jw nt ops.size base ρ0 F w0 ds S owed e h a w ρ F' e0 →
    anyD P lo nt ops (itemsD ops.toList 0) base m ord done owed e h = some fin →
    ∃ m' ord' done' owed' e', Jd P ops nt base S ord' done' owed' e' h ∧ Jw nt ops.size base ρ0 F w0 ds S owed' e' h a w ρ F' e0 ∧
      anyD P lo nt ops (itemsD ops.toList 0) base (m' + 1) ord' done' owed' e' h = some fin ∧ (itemsD ops.toList 0).find? (fun t => freeB done' t && lightB ops (itemsD ops.toList 0) t) = none
  | 0, ord, done, owed, e, J, W, hd => by cases hd
  | m + 1, ord, done, owed, e, J, W, hd => by
    cases hf : (itemsD ops.toList 0).find? (fun t => freeB done t && lightB ops (itemsD ops.toList 0) t) with
    | none => exact ⟨m, ord, done, owed, e, J, W, hd, hf⟩
    | some t =>
      have hd2 := hd
      rw [anyD, hf] at hd2
      simp only at hd2
      split at hd2
      case isFalse => cases hd2
      rename_i hfit
      split at hd2
      case h_2 => cases hd2
      rename_i v c hv
      have hp := List.find?_some hf
      simp only [Bool.and_eq_true] at hp
      have hmem := List.mem_of_find?_eq_some hf
      exact norm m (J.light hmem hp.1 hp.2 hfit hv) (W.light J hp.1) hd2

theorem getD_iff {listed : Array Bool} {i : Nat} (hi : i < listed.size) (j : Nat) : ((listed.setIfInBounds i true).getD j false = true) ↔ (listed.getD j false = true ∨ j = i) := by
  by_cases h : i = j
  · subst h; simp [hi]
  · rw [getD_set_ne false h]
    exact ⟨.inl, fun hh => hh.resolve_right fun he => h he.symm⟩
theorem count_set {listed : Array Bool} {i : Nat} (hi : i < listed.size) (h0 : listed.getD i false = false) {f : Nat} (hc : listed.count false ≤ f + 1) : (listed.setIfInBounds i true).count false ≤ f := by
  unfold Array.setIfInBounds
  rw [dif_pos hi, Array.count_set hi]
  have : listed[i] = false := by simpa [hi] using h0
  simp [this]
  omega

theorem Jd.congr {S S' : Nat → Prop} {ord : List Nat} {done : Nat} {owed : List Ow} {e : Env} (hS : ∀ i, S i ↔ S' i) (J : Jd P ops nt base S ord done owed e h) : Jd P ops nt base S' ord done owed e h := by
  have : S = S' := funext fun i => propext (hS i)
  exact this ▸ J
theorem Jw.congr {S S' : Nat → Prop} {owed : List Ow} {e : Env} (hS : ∀ i, S i ↔ S' i) (W : Jw nt ops.size base ρ0 F w0 ds S owed e h a w ρ F' e0) : Jw nt ops.size base ρ0 F w0 ds S' owed e h a w ρ F' e0 := by
  have : S = S' := funext fun i => propext (hS i)
  exact this ▸ W

abbrev Sof (listed : Array Bool) : Nat → Prop := fun i => listed.getD i false = true

theorem ready_iff {listed : Array Bool} (hsz : listed.size = ops.size) {i : Nat} : i ∈ Region.ready .any ops listed ↔ ¬ Sof listed i ∧ ∃ t, (itemsD ops.toList 0)[i]? = some t ∧ ∀ p, has t.m p = true → Sof listed p := by
  rw [mem_ready]
  constructor
  · rintro ⟨h1, o, ho, h2⟩
    have hlt : i < listed.size := by rw [hsz]; exact (Array.getElem?_eq_some_iff.1 ho).1
    refine ⟨fun hs => ?_, _, its_of ho, fun p hp => ?_⟩
    · have e1 : listed[i] = true := by simpa [Sof, hlt] using hs
      have e2 : listed[i] = false := by simpa [hlt] using h1
      rw [e1] at e2; cases e2
    · obtain ⟨e, he, hb, rfl⟩ := (has_pred o p).1 hp
      exact h2 e (by simpa using he) hb
  · rintro ⟨h1, t, ht, h2⟩
    obtain ⟨_, ho, hm, _⟩ := its_at ht
    have hlt : i < listed.size := by rw [hsz]; exact (Array.getElem?_eq_some_iff.1 ho).1
    refine ⟨?_, _, ho, fun e he hb => h2 _ ?_⟩
    · have : ¬ listed[i] = true := fun hh => h1 (by simpa [Sof, hlt] using hh)
      simpa [hlt] using this
    · rw [hm]; exact (has_pred t.o e.on).2 ⟨e, by simpa using he, hb, rfl⟩

theorem any_main (hg : GoodLo P Y lo) (hy0 : Ctx ρ0 F Y) {Fc : Fence} (hw : Wide Fc) {k : Nat} {Q : Exit → Act → World → Prop} {fin : Env × Heap} (hQ : ∀ a' w', Stp ρ0 nt F w0 base fin.1 fin.2 ds a' w' → Q .normal a' w') :
    ∀ (fuel : Nat) (listed : Array Bool), listed.size = ops.size → listed.count false ≤ fuel → ∀ (m : Nat) (ord : List Nat) (done : Nat) (owed : List Ow) (e : Env) (h : Heap) (a : Act) (w : World) (ρ : Nm) (F' : Fr) (e0 : Env),
      Jd P ops nt base (Sof listed) ord done owed e h → Jw nt ops.size base ρ0 F w0 ds (Sof listed) owed e h a w ρ F' e0 →
      anyD P lo nt ops (itemsD ops.toList 0) base m ord done owed e h = some fin → wpAnyIn Fc k P .any ops Q fuel listed a w := by
  intro fuel
  induction fuel with
  | zero =>
    intro listed hsz hcnt m ord done owed e h a w ρ F' e0 J W hd
    have hall : ∀ i, i < ops.size → Sof listed i := fun i hi => by
      have hi' : i < listed.size := by omega
      have hc0 : listed.count false = 0 := by omega
      have : listed[i] ≠ false := fun he => by
        have := Array.count_eq_zero.1 hc0
        exact this (he ▸ Array.getElem_mem hi')
      have h1 : listed[i] = true := by cases hx : listed[i] with | true => rfl | false => exact absurd hx this
      simpa [Sof, hi'] using h1
    have hready : Region.ready .any ops listed = [] := by
      refine List.eq_nil_iff_forall_not_mem.2 fun i hi => ?_
      obtain ⟨h1, t, ht, _⟩ := (ready_iff hsz).1 hi
      exact h1 (hall i (Array.getElem?_eq_some_iff.1 (its_at ht).2.1).1)
    obtain ⟨m', ord', done', owed', e', J', W', hd', hfind⟩ := norm m J W hd
    refine ⟨hready, ?_⟩
    exact any_end hsz hready J' W' hd' hfind hQ
  | succ fuel ih =>
    intro listed hsz hcnt m ord done owed e h a w ρ F' e0 J W hd
    obtain ⟨m', ord', done', owed', e', J', W', hd', hfind⟩ := norm m J W hd
    refine ⟨fun hready => any_end hsz hready J' W' hd' hfind hQ, fun i hi => ?_⟩
    obtain ⟨hnS, t, ht, hpre⟩ := (ready_iff hsz).1 hi
    obtain ⟨hti, ho, hm, hmem⟩ := its_at ht
    subst hti
    have hlt : t.i < listed.size := by rw [hsz]; exact (Array.getElem?_eq_some_iff.1 ho).1
    have h0 : listed.getD t.i false = false := by simpa [Sof] using hnS
    have hcnt' := count_set hlt h0 hcnt
    have hS' : ∀ j, (Sof listed j ∨ j = t.i) ↔ Sof (listed.setIfInBounds t.i true) j := fun j => (getD_iff hlt j).symm
    by_cases hord : t.i ∈ ord'
    · obtain ⟨u, hu, hui⟩ := J'.owS t.i hord hnS
      have hto : u.o = t.o := by
        have := (J'.ow u hu).1
        rw [hui, ht] at this
        exact (congrArg It.o (Option.some.inj this)).symm
      have hpre' : ∀ p, has (predM u.o) p = true → Sof listed p := fun p hp => hpre p (by rw [hm, ← hto]; exact hp)
      rw [← hui]
      refine exec_light J' W' hu (by rw [hui]; exact hnS) hpre' hw fun a1 w1 ρ1 F1 e1 W1 => ?_
      rw [hui] at W1 ⊢
      refine ih (listed.setIfInBounds t.i true) (by simpa using hsz) hcnt' (m' + 1) ord' done' owed' e' h a1 w1 ρ1 F1 e1 ?_ (W1.congr hS') hd'
      exact ((J'.more hu hpre').congr fun j => by rw [hui]; exact hS' j)
    · have hfree : freeB done' t = true := free_iff.2 ⟨by
          cases hh : has done' t.i with
          | false => rfl
          | true => exact absurd ((J'.doneOrd _).1 hh) hord, fun p hp => (J'.doneOrd p).2 (J'.sub p (hpre p hp))⟩
      rw [anyD, hfind] at hd'
      simp only at hd'
      have hin : t ∈ (itemsD ops.toList 0).filter (freeB done') := List.mem_filter.2 ⟨hmem, hfree⟩
      split at hd'
      · rename_i hfil
        rw [hfil] at hin; cases hin
      · rename_i t' hfil
        rw [hfil] at hin
        have htt : t = t' := by simpa using hin
        subst htt
        split at hd'
        case isFalse => cases hd'
        rename_i hfit
        split at hd'
        case h_2 => cases hd'
        rename_i v h2 heff
        split at hd'
        case isFalse => cases hd'
        rename_i hag
        have hM := must_sound (its := itemsD ops.toList 0) J'.down ord' t.m hpre
        refine exec_eff hg (hy0.mono W'.ext.le (Fr.le_refl _)) J' W' hmem hord hpre hfit hM heff hw fun a1 w1 ρ1 F1 e1 W1 => ?_
        exact ih (listed.setIfInBounds t.i true) (by simpa using hsz) hcnt' m' _ _ _ _ h2 a1 w1 ρ1 F1 e1 ((J'.eff hmem hord hpre hM hag).congr hS') (W1.congr hS') hd'
      · cases hd'
where
  any_end {Q : Exit → Act → World → Prop} {fin : Env × Heap} {listed : Array Bool} (hsz : listed.size = ops.size) (hready : Region.ready .any ops listed = []) {m' : Nat} {ord : List Nat} {done : Nat} {owed : List Ow} {e : Env} {h : Heap} {a : Act} {w : World}
      {ρ : Nm} {F' : Fr} {e0 : Env} (J : Jd P ops nt base (Sof listed) ord done owed e h) (W : Jw nt ops.size base ρ0 F w0 ds (Sof listed) owed e h a w ρ F' e0)
      (hd : anyD P lo nt ops (itemsD ops.toList 0) base (m' + 1) ord done owed e h = some fin) (hfind : (itemsD ops.toList 0).find? (fun t => freeB done t && lightB ops (itemsD ops.toList 0) t) = none)
      (hQ : ∀ a' w', Stp ρ0 nt F w0 base fin.1 fin.2 ds a' w' → Q .normal a' w') : Q .normal a w := by
    have hno : ∀ i t, ¬ Sof listed i → (itemsD ops.toList 0)[i]? = some t → ¬ ∀ p, has t.m p = true → Sof listed p := fun i t h1 h2 h3 => by
      have := (ready_iff hsz).2 ⟨h1, t, h2, h3⟩
      rw [hready] at this; cases this
    have hordS : ∀ i ∈ ord, Sof listed i := fun i hi => Classical.byContradiction fun hn => by
      obtain ⟨i, t, k1, k2, k3, k4⟩ := topo_first J.topo ⟨i, hi, hn⟩
      exact hno i t k2 k3 k4
    have hall : ∀ u ∈ owed, Sof listed u.i := fun u hu => hordS _ (J.ow u hu).2.1
    rw [anyD, hfind] at hd
    simp only at hd
    have hnofree : ∀ t ∈ (itemsD ops.toList 0).filter (freeB done), False := fun t ht => by
      obtain ⟨h1, h2⟩ := List.mem_filter.1 ht
      obtain ⟨f1, f2⟩ := free_iff.1 h2
      refine hno t.i t (fun hs => ?_) (its_mem h1).1 fun p hp => hordS p ((J.doneOrd p).1 (f2 p hp))
      rw [(J.doneOrd _).2 (J.sub _ hs)] at f1; cases f1
    split at hd
    · split at hd
      case isFalse => cases hd
      cases hd
      obtain ⟨F2, m1, m2, m3, m4⟩ := mat_sound (base := base) (F := F) (w := w) (ρ := ρ) owed (h := h) (F' := F') J.nodup J.nd W.sim W.le (fun u hu cs hc => W.pend u hu cs hc (hall u hu))
        (fun u hu u' hu' hc hc' => W.dis u hu u' hu' (hall u hu) (hall u' hu') hc hc')
      refine hQ a w ⟨ρ, F, W.ext, Fr.le_refl _, ⟨W.rel.size, fun t => ?_⟩, by rw [W.defers]; exact Marked.refl _ _ _, m1.weaken m2, W.same, ?_⟩
      · rw [← W.agree t fun u hu hs => absurd (hall u hu) hs]
        exact W.rel.val t
      · have := W.room
        show base ≤ (putAll base owed h).next
        omega
    · rename_i t hfil
      exact (hnofree t (by rw [hfil]; simp)).elim
    · cases hd

theorem any_good (hm : P.follows .mixedOrders = true) (hg : GoodLo P Y lo) : AnyGood P Y lo (anyF P) := by
  intro nt ops e h e' h' hd Fc n id Q ρ F w a hw hy hr hs hQ
  refine wpIn_region_any hm ?_
  unfold anyF at hd
  have hs0 : Sim ρ ⟨h.mem, h.next + ops.size⟩ F { w with drawn := w.drawn + 1 } := by
    have h1 : Sim ρ ⟨h.mem, h.next + ops.size⟩ F w := ⟨hs.row, hs.inj, hs.frame, fun nm hn => hs.fresh nm (by simp only at hn; omega)⟩
    exact h1.heap_eq rfl
  have hS0 : ∀ i, ¬ Sof (Array.replicate ops.size false) i := fun i hi => by
    simp only [Sof, Array.getD_eq_getD_getElem?, Array.getElem?_replicate] at hi
    split at hi <;> cases hi
  refine any_main (F := F) (ρ0 := ρ) (w0 := { w with drawn := w.drawn + 1 }) (ds := a.defers) (base := h.next) (nt := nt) hg hy hw (fin := (e', h')) (fun a' w' H => ?_) ops.size _ (by simp) (by simp) (ops.size + 1) [] 0 [] e _ a _ ρ F e ?_ ?_ hd
  · obtain ⟨ρ', F', g1, gF, g2, g3, g4, g5, g6⟩ := H
    exact hQ a' w' ⟨ρ', F', g1, gF, g2, g3, g4, ⟨g5.tape, g5.os, g5.output⟩, g6⟩
  · exact ⟨fun i => by simp [has], trivial, fun i hi => absurd hi (hS0 i), fun i hi => (by cases hi), fun i t hi => absurd hi (hS0 i), fun u hu => (by cases hu), fun u hu => (by cases hu), List.nodup_nil⟩
  · exact ⟨Ext.refl _ _, hr, fun t _ => rfl, hs0, fun b o h => h, fun u hu => (by cases hu), fun u hu => (by cases hu), fun i hi _ => hs.fresh _ (by omega), rfl, Same.refl _, Nat.le_refl _⟩
end
end Go.D
