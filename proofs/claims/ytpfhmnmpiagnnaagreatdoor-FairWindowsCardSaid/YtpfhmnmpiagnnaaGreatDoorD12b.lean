/- D, part 12b: blocks that lie beside the heap. -/
import Derived.Test.YtpfhmnmpiagnnaaGreatDoorD12
namespace Go.D
open Go

/-! ### Blocks that wait beside the heap -/
def ObjRow (ρ : Nm) (l : Loc) (cs : List SV) (o : Obj) : Prop :=
  ∃ c el fz, o = .cells c el fz ∧ (∃ xs, VRs ρ cs xs ∧ ∀ i x, xs[i]? = some x → c[l.base + i]? = some x) ∧
    l.base + cs.length ≤ l.lim ∧ l.lim ≤ c.size ∧ (∀ i, l.base ≤ i → i < l.lim → ¬ (fz.1 ≤ i ∧ i < fz.2))
theorem ObjRow.at {ρ : Nm} {l : Loc} {cs : List SV} {o : Obj} {w : World} (h : ObjRow ρ l cs o) (hw : w.heap[l.blk]? = some o) : RowAt ρ l cs w := by
  obtain ⟨c, el, fz, rfl, h1, h2, h3, h4⟩ := h
  exact ⟨c, el, fz, hw, h1, h2, h3, h4⟩
theorem RowAt.obj {ρ : Nm} {l : Loc} {cs : List SV} {o : Obj} {w : World} (h : RowAt ρ l cs w) (hw : w.heap[l.blk]? = some o) : ObjRow ρ l cs o := by
  obtain ⟨c, el, fz, h0, h1, h2, h3, h4⟩ := h
  rw [hw] at h0
  cases h0
  exact ⟨c, el, fz, rfl, h1, h2, h3, h4⟩
theorem ObjRow.mono {ρ ρ' : Nm} (hle : ρ.le ρ') {l : Loc} {cs : List SV} {o : Obj} (h : ObjRow ρ l cs o) : ObjRow ρ' l cs o := by
  obtain ⟨c, el, fz, h0, ⟨xs, h1, h1'⟩, h2⟩ := h
  exact ⟨c, el, fz, h0, ⟨xs, VRs_mono hle _ _ h1, h1'⟩, h2⟩
def Fr.le (F F' : Fr) : Prop := ∀ b o, F b = some o → F' b = some o
theorem Sim.weaken {ρ : Nm} {h : Heap} {F F' : Fr} {w : World} (hs : Sim ρ h F' w) (hF : F.le F') : Sim ρ h F w := by
  refine ⟨fun nm cs hg => ?_, hs.inj, fun b o hb => hs.frame b o (hF b o hb), hs.fresh⟩
  obtain ⟨l, h1, h2, h3⟩ := hs.row nm cs hg
  refine ⟨l, h1, h2, ?_⟩
  cases hb : F l.blk with
  | none => rfl
  | some o => rw [hF _ _ hb] at h3; cases h3
/-- A block of the frame's comes into the heap. -/
theorem Sim.take {ρ : Nm} {h : Heap} {F : Fr} {w : World} (hs : Sim ρ h F w) {nm : Nat} {cs : List SV} {l : Loc} {o : Obj} (hn : ρ nm = some l) (hF : F l.blk = some o) (ho : ObjRow ρ l cs o) :
    Sim ρ (h.put nm cs) (fun b => if b = l.blk then none else F b) w := by
  have hne : ∀ m c l', h.get m = some c → ρ m = some l' → l'.blk ≠ l.blk := fun m c l' hg hl' e => by
    obtain ⟨l2, h1, h2, h3⟩ := hs.row m c hg
    rw [hl'] at h1; cases h1
    rw [e, hF] at h3; cases h3
  constructor
  · intro m c hg
    rw [Heap.get_put] at hg
    split at hg
    · cases hg
      subst_vars
      exact ⟨l, hn, ho.at (hs.frame _ _ hF), by simp⟩
    · obtain ⟨l2, h1, h2, h3⟩ := hs.row m c hg
      exact ⟨l2, h1, h2, by rw [if_neg (hne m c l2 hg h1)]; exact h3⟩
  · intro m m' c c' l1 l2 hg hg' h1 h2 he
    rw [Heap.get_put] at hg hg'
    split at hg
    · split at hg'
      · subst_vars; rfl
      · subst_vars; rw [hn] at h1; cases h1
        exact absurd he.symm (hne m' c' l2 hg' h2)
    · split at hg'
      · subst_vars; rw [hn] at h2; cases h2
        exact absurd he (hne m c l1 hg h1)
      · exact hs.inj m m' c c' l1 l2 hg hg' h1 h2 he
  · intro b o' hb
    split at hb
    · cases hb
    · exact hs.frame b o' hb
  · exact hs.fresh
/-- A new block goes beside the heap. -/
theorem Sim.aside {ρ : Nm} {h : Heap} {F : Fr} {w : World} (hs : Sim ρ h F w) {nm : Nat} (hn : ρ nm = none) (hlt : nm < h.next) (l : Loc) (o : Obj) :
    Sim (ρ.add nm l) h (fun b => if b = w.heap.size then some o else F b) { w with heap := w.heap.push o } := by
  have hle := Nm.le_add (l := l) hn
  have hget : ∀ (b : Nat) x, w.heap[b]? = some x → (w.heap.push o)[b]? = some x ∧ b ≠ w.heap.size := fun b x hb => by
    have hlt := (Array.getElem?_eq_some_iff.1 hb).1
    exact ⟨by rw [Array.getElem?_push, if_neg (by omega)]; exact hb, by omega⟩
  constructor
  · intro m c hg
    obtain ⟨l2, h1, h2, h3⟩ := hs.row m c hg
    obtain ⟨cc, el, fz, h0, h2'⟩ := h2
    have h2 := (show RowAt ρ l2 c w from ⟨cc, el, fz, h0, h2'⟩).obj h0
    obtain ⟨g1, g2⟩ := hget _ _ h0
    exact ⟨l2, hle _ _ h1, (h2.mono hle).at g1, by rw [if_neg g2]; exact h3⟩
  · intro m m' c c' l1 l2 hg hg' h1 h2 he
    obtain ⟨l3, h3, _⟩ := hs.row m c hg
    obtain ⟨l4, h4, _⟩ := hs.row m' c' hg'
    have e1 := hle _ _ h3
    have e2 := hle _ _ h4
    rw [h1] at e1; rw [h2] at e2
    cases e1; cases e2
    exact hs.inj m m' c c' l1 l2 hg hg' h3 h4 he
  · intro b x hb
    split at hb
    · cases hb; subst_vars; simp
    · exact (hget b x (hs.frame b x hb)).1
  · intro m hm
    unfold Nm.add
    rw [if_neg (by omega)]
    exact hs.fresh m hm

/-- A block beside the heap turns. -/
def Fr.set (F : Fr) (b : Nat) (o : Obj) : Fr := fun b' => if b' = b then some o else F b'
theorem Fr.le_refl (F : Fr) : F.le F := fun _ _ h => h
theorem Fr.le_trans {A B C : Fr} (h : A.le B) (h' : B.le C) : A.le C := fun b o x => h' b o (h b o x)
theorem Fr.le_set {F F' : Fr} (h : F.le F') {b : Nat} {o : Obj} (hb : F b = none ∨ F b = some o) : F.le (F'.set b o) := fun b' o' hb' => by
  unfold Fr.set
  split
  · subst_vars
    rcases hb with hb | hb
    · rw [hb] at hb'; cases hb'
    · rw [hb] at hb'; exact hb'
  · exact h b' o' hb'
theorem Fr.set_self (F : Fr) (b : Nat) (o : Obj) : F.set b o b = some o := by unfold Fr.set; rw [if_pos rfl]
theorem Fr.set_ne (F : Fr) {b b' : Nat} (o : Obj) (h : b' ≠ b) : F.set b o b' = F b' := by unfold Fr.set; rw [if_neg h]
theorem Sim.turn {ρ : Nm} {h : Heap} {F : Fr} {w : World} (hs : Sim ρ h F w) {b : Nat} {o : Obj} (hF : F b = some o) (o' : Obj) : Sim ρ h (F.set b o') (setBlk w b o') := by
  have hb := hs.frame b o hF
  constructor
  · intro nm cs hg
    obtain ⟨l, h1, ⟨c, el, fz, h0, h2⟩, h3⟩ := hs.row nm cs hg
    have hne : l.blk ≠ b := fun he => by rw [he, hF] at h3; cases h3
    refine ⟨l, h1, ⟨c, el, fz, by rw [setBlk_get_ne (Ne.symm hne)]; exact h0, h2⟩, by rw [Fr.set_ne _ _ hne]; exact h3⟩
  · exact hs.inj
  · intro b' x hx
    unfold Fr.set at hx
    split at hx
    · cases hx; subst_vars; exact setBlk_get_self hb
    · rw [setBlk_get_ne (fun he => by subst_vars; contradiction)]
      exact hs.frame b' x hx
  · exact hs.fresh
/-- A new block that bears no name. -/
theorem Sim.beside {ρ : Nm} {h : Heap} {F : Fr} {w : World} (hs : Sim ρ h F w) {next' : Nat} (hn : h.next ≤ next') (o : Obj) :
    Sim ρ ⟨h.mem, next'⟩ (F.set w.heap.size o) { w with heap := w.heap.push o } := by
  have hget : ∀ (b : Nat) x, w.heap[b]? = some x → (w.heap.push o)[b]? = some x ∧ b ≠ w.heap.size := fun b x hb => by
    have hlt := (Array.getElem?_eq_some_iff.1 hb).1
    exact ⟨by rw [Array.getElem?_push, if_neg (by omega)]; exact hb, by omega⟩
  refine ⟨fun m c hg => ?_, hs.inj, fun b x hb => ?_, fun nm hm => hs.fresh nm (by simp only at hm; omega)⟩
  · obtain ⟨l2, h1, ⟨cc, el, fz, h0, h2⟩, h3⟩ := hs.row m c hg
    obtain ⟨g1, g2⟩ := hget _ _ h0
    exact ⟨l2, h1, ⟨cc, el, fz, g1, h2⟩, by rw [Fr.set_ne _ _ g2]; exact h3⟩
  · unfold Fr.set at hb
    split at hb
    · cases hb; subst_vars; simp
    · exact (hget b x (hs.frame b x hb)).1
end Go.D
