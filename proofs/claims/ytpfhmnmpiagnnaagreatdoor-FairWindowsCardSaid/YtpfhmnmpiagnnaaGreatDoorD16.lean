/- D, part 16: a region in any order: small laws. -/
import Derived.Test.YtpfhmnmpiagnnaaGreatDoorD15
namespace Go.D
open Go

theorem has_pred (o : Oper) (p : Nat) : has (predM o) p = true ↔ ∃ e ∈ o.after.toList, Region.binds .any e = true ∧ e.on = p := by
  unfold predM
  have key : ∀ (l : List Edge) (m : Nat), has (l.foldl (fun m e => if Region.binds .any e then add m e.on else m) m) p = true ↔ has m p = true ∨ ∃ e ∈ l, Region.binds .any e = true ∧ e.on = p := by
    intro l
    induction l with
    | nil => intro m; simp
    | cons e l ih =>
      intro m
      rw [List.foldl_cons, ih]
      by_cases hb : Region.binds .any e = true
      · rw [if_pos hb, has_add]
        simp only [Bool.or_eq_true, decide_eq_true_eq, List.mem_cons]
        constructor
        · rintro ((h | h) | ⟨x, hx, h⟩)
          · exact .inl h
          · exact .inr ⟨e, .inl rfl, hb, h⟩
          · exact .inr ⟨x, .inr hx, h⟩
        · rintro (h | ⟨x, rfl | hx, h⟩)
          · exact .inl (.inl h)
          · exact .inl (.inr h.2)
          · exact .inr ⟨x, hx, h⟩
      · rw [if_neg hb]
        simp only [List.mem_cons]
        constructor
        · rintro (h | ⟨x, hx, h⟩)
          · exact .inl h
          · exact .inr ⟨x, .inr hx, h⟩
        · rintro (h | ⟨x, rfl | hx, h⟩)
          · exact .inl h
          · exact absurd h.1 hb
          · exact .inr ⟨x, hx, h⟩
  rw [key]
  simp [has]
theorem its_get : ∀ (l : List Oper) (k i : Nat), (itemsD l k)[i]? = (l[i]?).map fun o => ⟨k + i, o, predM o⟩
  | [], k, i => by simp [itemsD]
  | o :: os, k, 0 => by simp [itemsD]
  | o :: os, k, i + 1 => by
    rw [itemsD, List.getElem?_cons_succ, its_get os (k + 1) i, List.getElem?_cons_succ]
    congr 1
    funext o
    rw [Nat.add_right_comm, Nat.add_assoc]
theorem free_iff {done : Nat} {t : It} : freeB done t = true ↔ has done t.i = false ∧ ∀ p, has t.m p = true → has done p = true := by
  unfold freeB
  rw [Bool.and_eq_true, Bool.not_eq_true', beq_iff_eq]
  refine and_congr_right fun _ => ⟨fun h p hp => ?_, fun h => ?_⟩
  · unfold has at *
    rw [← h, Nat.testBit_and, Bool.and_eq_true] at hp
    exact hp.2
  · refine Nat.eq_of_testBit_eq fun p => ?_
    rw [Nat.testBit_and]
    have := h p
    unfold has at this
    cases hm : t.m.testBit p with
    | false => rfl
    | true => rw [this hm]; rfl
theorem must_sound {its : List It} {S : Nat → Prop} (hd : ∀ i t, S i → its[i]? = some t → ∀ p, has t.m p = true → S p) :
    ∀ (ord : List Nat) (m : Nat), (∀ i, has m i = true → S i) → ∀ i, has (mustD its ord m) i = true → S i
  | [], m, h, i, hi => h i hi
  | j :: ord, m, h, i, hi => by
    rw [mustD] at hi
    refine must_sound hd ord _ (fun p hp => ?_) i hi
    by_cases hj : has m j = true
    · rw [if_pos hj] at hp
      cases ht : its[j]? with
      | none => rw [ht] at hp; exact h p hp
      | some t =>
        rw [ht] at hp
        have hp' : has (m ||| t.m) p = true := hp
        unfold has at hp'
        rw [Nat.testBit_or, Bool.or_eq_true] at hp'
        rcases hp' with hp | hp
        · exact h p hp
        · exact hd j t (h j hj) ht p hp
    · rw [if_neg hj] at hp; exact h p hp

/-- Every one behind those it waits for. -/
def Topo (its : List It) : List Nat → Prop
  | [] => True
  | i :: ord => i ∉ ord ∧ (∃ t, its[i]? = some t ∧ ∀ p, has t.m p = true → p ∈ ord) ∧ Topo its ord
theorem topo_first {its : List It} {S : Nat → Prop} : ∀ {ord : List Nat}, Topo its ord → (∃ i ∈ ord, ¬ S i) →
    ∃ i t, i ∈ ord ∧ ¬ S i ∧ its[i]? = some t ∧ ∀ p, has t.m p = true → S p
  | [], _, ⟨i, hi, _⟩ => by cases hi
  | j :: ord, ⟨h1, ⟨t, h2, h3⟩, h4⟩, ⟨i, hi, hs⟩ => by
    by_cases hex : ∃ i ∈ ord, ¬ S i
    · obtain ⟨i, t, g1, g2⟩ := topo_first h4 hex
      exact ⟨i, t, List.mem_cons_of_mem _ g1, g2⟩
    · have hall : ∀ i ∈ ord, S i := fun i hi => Classical.byContradiction fun hn => hex ⟨i, hi, hn⟩
      have hj : i = j := by
        rcases List.mem_cons.1 hi with h | h
        · exact h
        · exact absurd (hall i h) hs
      subst hj
      exact ⟨i, t, hi, hs, h2, fun p hp => hall p (h3 p hp)⟩

end Go.D
