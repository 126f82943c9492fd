/- D, part 3: loads, stores and new rows. -/
import Derived.Test.YtpfhmnmpiagnnaaGreatDoorD2
namespace Go.D
open Go

section
variable {P : Program}

def setBlk (w : World) (b : Nat) (o : Obj) : World := { w with heap := w.heap.setIfInBounds b o }
theorem setBlk_same (w : World) (b : Nat) (o : Obj) : Same w (setBlk w b o) := ⟨rfl, rfl, rfl⟩
theorem setBlk_get (w : World) (b : Nat) (o : Obj) (b' : Nat) : (setBlk w b o).heap[b']? = if b = b' then (if b < w.heap.size then some o else none) else w.heap[b']? := by
  simp only [setBlk]
  by_cases e : b = b'
  · subst e
    by_cases hb : b < w.heap.size
    · simp [hb]
    · simp [hb]
  · simp [e, Array.getElem?_setIfInBounds_ne e]
theorem lt_of_get {w : World} {b : Nat} {o : Obj} (h : w.heap[b]? = some o) : b < w.heap.size := by
  rcases Nat.lt_or_ge b w.heap.size with h' | h'
  · exact h'
  · simp [Array.getElem?_eq_none h'] at h
theorem setBlk_get_self {w : World} {b : Nat} {o o' : Obj} (h : w.heap[b]? = some o') : (setBlk w b o).heap[b]? = some o := by
  rw [setBlk_get, if_pos rfl, if_pos (lt_of_get h)]
theorem setBlk_get_ne {w : World} {b b' : Nat} {o : Obj} (h : b ≠ b') : (setBlk w b o).heap[b']? = w.heap[b']? := by
  rw [setBlk_get, if_neg h]
theorem setCell_eq {w : World} {b off : Nat} {c : Array Value} {el : TypeId} {fz : Nat × Nat} (v : Value) (h : w.heap[b]? = some (.cells c el fz)) :
    w.setCell ⟨b, off, none⟩ v = setBlk w b (.cells (c.setIfInBounds off v) el fz) := by
  have hb := lt_of_get h
  unfold World.setCell setBlk
  congr 1
  apply Array.ext_getElem?
  intro i
  rw [Array.getElem?_modify]
  by_cases e : b = i
  · subst e
    rw [if_pos rfl, h, Array.getElem?_setIfInBounds_self_of_lt hb]
    rfl
  · rw [if_neg e, Array.getElem?_setIfInBounds_ne e]
theorem setBlk_self {w : World} {b : Nat} {o : Obj} (h : w.heap[b]? = some o) : setBlk w b o = w := by
  unfold setBlk
  have : w.heap.setIfInBounds b o = w.heap := by
    apply Array.ext_getElem?
    intro j
    by_cases e : b = j
    · subst e; rw [Array.getElem?_setIfInBounds_self_of_lt (lt_of_get h), h]
    · rw [Array.getElem?_setIfInBounds_ne e]
  rw [this]
theorem setBlk_setBlk (w : World) (b : Nat) (o o' : Obj) : setBlk (setBlk w b o) b o' = setBlk w b o' := by
  unfold setBlk
  simp only
  congr 1
  apply Array.ext_getElem?
  intro j
  by_cases e : b = j
  · subst e
    by_cases hb : b < w.heap.size
    · rw [Array.getElem?_setIfInBounds_self_of_lt (by simpa using hb), Array.getElem?_setIfInBounds_self_of_lt hb]
    · simp [hb]
  · rw [Array.getElem?_setIfInBounds_ne e, Array.getElem?_setIfInBounds_ne e, Array.getElem?_setIfInBounds_ne e]
theorem cell_at {w : World} {b off : Nat} {c : Array Value} {el : TypeId} {fz : Nat × Nat} (h : w.heap[b]? = some (.cells c el fz)) : w.cell? ⟨b, off, none⟩ = c[off]? := by
  simp [World.cell?, h]
theorem frozen_at {w : World} {b off : Nat} {c : Array Value} {el : TypeId} {fz : Nat × Nat} (h : w.heap[b]? = some (.cells c el fz)) : w.frozen? ⟨b, off, none⟩ = (decide (fz.1 ≤ off) && decide (off < fz.2)) := by
  obtain ⟨lo, hi⟩ := fz
  simp [World.frozen?, h]
theorem add_none (b o i : Nat) : (⟨b, o, none⟩ : Addr).add i = ⟨b, o + i, none⟩ := by
  unfold Addr.add; split
  · subst_vars; rfl
  · rfl

theorem run_storeCells_row (b o : Nat) (el : TypeId) (fz : Nat × Nat) : ∀ (vs : List Value) (i : Nat) (c : Array Value) (w : World),
    w.heap[b]? = some (.cells c el fz) → o + i + vs.length ≤ c.size → (∀ j, o + i ≤ j → j < o + i + vs.length → ¬ (fz.1 ≤ j ∧ j < fz.2)) → (∀ v ∈ vs, v.oneCell' = true) →
    ∃ c' : Array Value, (storeCells ⟨b, o, none⟩ vs i).run P w = .ok () (setBlk w b (.cells c' el fz)) ∧ c'.size = c.size ∧
      ∀ j, c'[j]? = if o + i ≤ j ∧ j < o + i + vs.length then vs[j - (o + i)]? else c[j]?
  | [], i, c, w, h, _, _, _ => by
    refine ⟨c, ?_, rfl, fun j => by rw [if_neg (by simp only [List.length_nil]; omega)]⟩
    simp only [storeCells, Sem.run_pure]
    rw [setBlk_self h]
  | v :: vs, i, c, w, h, hl, hf, h1 => by
    simp only [List.length_cons] at hl hf
    have hi : o + i < c.size := by omega
    have hc : w.cell? ⟨b, o + i, none⟩ = some c[o + i] := by rw [cell_at h]; simp [hi]
    have hz : w.frozen? ⟨b, o + i, none⟩ = false := by
      rw [frozen_at h]
      have := hf (o + i) (Nat.le_refl _) (by omega)
      simp only [Bool.and_eq_false_iff, decide_eq_false_iff_not]
      by_cases h2 : fz.1 ≤ o + i
      · right; omega
      · left; exact h2
    have hst : (store (Addr.add ⟨b, o, none⟩ i) v).run P w = .ok () (setBlk w b (.cells (c.setIfInBounds (o + i) v) el fz)) := by
      rw [add_none, run_store P w _ v _ (h1 v (by simp)), hc]
      simp [hz, setCell_eq v h]
    obtain ⟨c', hr, hs, hg⟩ := run_storeCells_row b o el fz vs (i + 1) (c.setIfInBounds (o + i) v) (setBlk w b (.cells (c.setIfInBounds (o + i) v) el fz)) (setBlk_get_self h)
      (by simp; omega) (fun j hj hj' => hf j (by omega) (by omega)) (fun x hx => h1 x (by simp [hx]))
    refine ⟨c', ?_, by simpa using hs, fun j => ?_⟩
    · simp only [storeCells, Sem.run_bind, hst, Result.andThen_ok, hr, setBlk_setBlk]
    · rw [hg]
      by_cases hj : j = o + i
      · subst hj
        rw [if_neg (by omega), if_pos (by simp only [List.length_cons]; omega)]
        simp [hi]
      · by_cases h2 : o + (i + 1) ≤ j ∧ j < o + (i + 1) + vs.length
        · rw [if_pos h2, if_pos (by simp only [List.length_cons]; omega)]
          rw [show j - (o + i) = (j - (o + (i + 1))) + 1 by omega, List.getElem?_cons_succ]
        · rw [if_neg h2, if_neg (by simp only [List.length_cons]; omega)]
          rw [Array.getElem?_setIfInBounds_ne (by omega)]

theorem run_isAgg {t : TypeId} {b : Bool} (h : tagg P t = some b) (w : World) : (isAgg t).run P w = .ok b w := by
  unfold tagg at h
  cases hu : P.underlying t with
  | none => rw [hu] at h; cases h
  | some d =>
    rw [hu] at h
    simp only [Option.map_some, Option.some.injEq] at h
    subst h
    unfold isAgg
    rw [Sem.run_bind, run_underlying hu, Result.andThen_ok]
    cases d <;> rfl
theorem run_sizeOf {t n : Nat} (h : tsize P t = some n) (w : World) : (sizeOf t).run P w = .ok n w := by
  unfold tsize at h
  cases hi : P.info? t with
  | none => rw [hi] at h; cases h
  | some i =>
    rw [hi] at h; cases h
    simp [sizeOf, typeInfo, hi]
theorem run_zero {t : TypeId} {z : SV} (ρ : Nm) (h : tzero P t = some z) (w : World) : ∃ x, VR ρ z x ∧ (zeroValue t).run P w = .ok x w := by
  unfold tzero at h
  cases hi : P.info? t with
  | none => rw [hi] at h; cases h
  | some i =>
    rw [hi] at h
    simp only [Option.bind_some] at h
    cases hz : i.zero with
    | none => rw [hz] at h; cases h
    | some v =>
      rw [hz] at h
      exact ⟨v, ofV_sound v z h, by simp [zeroValue, typeInfo, hi, hz]⟩

/-- Cells of a live row. -/
theorem RowAt.load {ρ : Nm} {l : Loc} {cs : List SV} {w : World} (hr : RowAt ρ l cs w) {off n : Nat} {us : List SV} (hs : seg cs off n = some us) :
    ∃ xs, VRs ρ us xs ∧ xs.length = n ∧ (loadCells ⟨l.blk, l.base + off, none⟩ n).run P w = .ok ⟨xs⟩ w := by
  obtain ⟨c, el, fz, hc, ⟨xs, hx, hg⟩, _, _, _⟩ := hr
  obtain ⟨h1, h2, h3⟩ := VRs_seg hx hs
  refine ⟨_, h1, by simp [VRs_length hx]; omega, ?_⟩
  have hlen : ((xs.drop off).take n).length = n := by simp [VRs_length hx]; omega
  have := run_loadCells_list (P := P) w ⟨l.blk, l.base + off, none⟩ ((xs.drop off).take n) (fun j v hv => by
    rw [add_none, cell_at hc]
    rw [List.getElem?_take] at hv
    split at hv
    · rw [List.getElem?_drop] at hv
      rw [show l.base + off + j = l.base + (off + j) by omega]
      exact hg _ _ hv
    · cases hv)
  rw [hlen] at this
  exact this
theorem Sim.loc {ρ : Nm} {h : Heap} {F : Fr} {w : World} (hs : Sim ρ h F w) {nm : Nat} {cs : List SV} (hg : h.get nm = some cs) : ∃ l, ρ nm = some l ∧ RowAt ρ l cs w ∧ F l.blk = none := hs.row nm cs hg
theorem loadN_sound {ρ : Nm} {h : Heap} {F : Fr} {w : World} (hs : Sim ρ h F w) {nm off n : Nat} {us : List SV} (hl : loadN h nm off n = some us) {l : Loc} (hn : ρ nm = some l) :
    ∃ xs, VRs ρ us xs ∧ xs.length = n ∧ (loadCells ⟨l.blk, l.base + off, none⟩ n).run P w = .ok ⟨xs⟩ w := by
  unfold loadN at hl
  cases hg : h.get nm with
  | none => rw [hg] at hl; cases hl
  | some cs =>
    rw [hg] at hl
    obtain ⟨l', hl', hr, _⟩ := hs.loc hg
    rw [hn] at hl'; cases hl'
    exact hr.load hl
theorem loadT_sound {ρ : Nm} {h : Heap} {F : Fr} {w : World} (hs : Sim ρ h F w) {t nm off : Nat} {v : SV} (hl : loadT P h t nm off = some v) {l : Loc} (hn : ρ nm = some l) :
    ∃ x, VR ρ v x ∧ (loadVar t ⟨l.blk, l.base + off, none⟩).run P w = .ok x w := by
  unfold loadT at hl
  cases ha : tagg P t with
  | none => rw [ha] at hl; cases hl
  | some b =>
    rw [ha] at hl
    cases b with
    | true =>
      simp only at hl
      cases hz : tsize P t with
      | none => rw [hz] at hl; cases hl
      | some n =>
        rw [hz] at hl
        simp only at hl
        cases hq : loadN h nm off n with
        | none => rw [hq] at hl; cases hl
        | some us =>
          rw [hq] at hl
          simp only [Option.some.injEq] at hl
          subst hl
          obtain ⟨xs, h1, h2, h3⟩ := loadN_sound (P := P) hs hq hn
          refine ⟨.agg ⟨xs⟩, by simp only [VR]; exact ⟨xs, h1, rfl⟩, ?_⟩
          simp [loadVar, run_isAgg ha, run_sizeOf hz, h3]
    | false =>
      simp only at hl
      cases hg : h.get nm with
      | none => rw [hg] at hl; cases hl
      | some cs =>
        rw [hg] at hl
        simp only at hl
        obtain ⟨l', hl', hr, _⟩ := hs.loc hg
        rw [hn] at hl'; cases hl'
        obtain ⟨c, el, fz, hc, ⟨xs, hx, hgx⟩, _, _, _⟩ := hr
        obtain ⟨x, hx1, hx2⟩ := VRs_get hx hl
        refine ⟨x, hx2, ?_⟩
        have hcell : w.cell? ⟨l.blk, l.base + off, none⟩ = some x := by rw [cell_at hc]; exact hgx _ _ hx1
        simp [loadVar, run_isAgg ha, hcell]

/-- A row is written anew in its place. -/
theorem Sim.set {ρ : Nm} {h : Heap} {F : Fr} {w : World} (hs : Sim ρ h F w) {nm : Nat} {cs cs' : List SV} {l : Loc} (hg : h.get nm = some cs) (hn : ρ nm = some l)
    {o : Obj} (hr : RowAt ρ l cs' (setBlk w l.blk o)) : Sim ρ (h.put nm cs') F (setBlk w l.blk o) := by
  have key : ∀ m c, h.get m = some c → m ≠ nm → ∀ l', ρ m = some l' → l.blk ≠ l'.blk := fun m c hm hne l' hl' e =>
    hne (hs.inj m nm c cs l' l hm hg hl' hn e.symm)
  constructor
  · intro m c hm
    rw [Heap.get_put] at hm
    by_cases e : nm = m
    · subst e
      rw [if_pos rfl] at hm; cases hm
      obtain ⟨l', hl', _, hF⟩ := hs.loc hg
      rw [hn] at hl'; cases hl'
      exact ⟨l, hn, hr, hF⟩
    · rw [if_neg e] at hm
      obtain ⟨l', hl', ⟨c0, el, fz, hc, hx⟩, hF⟩ := hs.loc hm
      refine ⟨l', hl', ⟨c0, el, fz, ?_, hx⟩, hF⟩
      rw [setBlk_get_ne (key m c hm (Ne.symm e) l' hl')]; exact hc
  · intro m m' c c' l1 l2 hm hm' h1 h2 hb
    rw [Heap.get_put] at hm hm'
    by_cases e : nm = m
    · by_cases e' : nm = m'
      · rw [← e, ← e']
      · rw [if_neg e'] at hm'
        subst e
        exact hs.inj nm m' cs c' l1 l2 hg hm' h1 h2 hb
    · rw [if_neg e] at hm
      by_cases e' : nm = m'
      · subst e'; exact hs.inj m nm c cs l1 l2 hm hg h1 h2 hb
      · rw [if_neg e'] at hm'; exact hs.inj m m' c c' l1 l2 hm hm' h1 h2 hb
  · intro b o' hb
    by_cases e : l.blk = b
    · obtain ⟨l', hl', _, hF⟩ := hs.loc hg
      rw [hn] at hl'; cases hl'
      rw [e, hb] at hF; cases hF
    · rw [setBlk_get_ne e]; exact hs.frame b o' hb
  · exact hs.fresh
/-- A row that nobody asks for any more. -/
theorem Sim.drop {ρ : Nm} {h : Heap} {F : Fr} {w : World} (hs : Sim ρ h F w) (nm : Nat) : Sim ρ (h.drop nm) F w := by
  have key : ∀ m c, (h.drop nm).get m = some c → h.get m = some c := fun m c hm => by
    rw [Heap.get_drop] at hm; split at hm
    · cases hm
    · exact hm
  exact ⟨fun m c hm => hs.row m c (key m c hm), fun m m' c c' l l' hm hm' => hs.inj m m' c c' l l' (key m c hm) (key m' c' hm'), hs.frame, hs.fresh⟩

def Nm.add (ρ : Nm) (nm : Nat) (l : Loc) : Nm := fun m => if nm = m then some l else ρ m
theorem Nm.le_add {ρ : Nm} {nm : Nat} {l : Loc} (h : ρ nm = none) : ρ.le (ρ.add nm l) := fun m l' hm => by
  unfold Nm.add
  split
  · subst_vars; rw [h] at hm; cases hm
  · exact hm
theorem Nm.add_self (ρ : Nm) (nm : Nat) (l : Loc) : (ρ.add nm l) nm = some l := by simp [Nm.add]
/-- A new row at a name that is not yet given away. -/
theorem Sim.add {ρ : Nm} {h : Heap} {F : Fr} {w : World} (hs : Sim ρ h F w) {nm next' : Nat} {cs : List SV} {l : Loc} {o : Obj} (hnm : ρ nm = none) (hnx : nm < next') (hle : h.next ≤ next')
    (hb : l.blk = w.heap.size) (hr : RowAt (ρ.add nm l) l cs { w with heap := w.heap.push o }) : Sim (ρ.add nm l) ⟨h.mem.put nm (some cs), next'⟩ F { w with heap := w.heap.push o } := by
  have hget : ∀ m, Heap.get ⟨h.mem.put nm (some cs), next'⟩ m = if nm = m then some cs else h.get m := fun m => by simp [Heap.get, Tr.get_put]
  have hne : ∀ m c, h.get m = some c → m ≠ nm := fun m c hm e => by
    obtain ⟨l', hl', _⟩ := hs.loc hm
    rw [e, hnm] at hl'; cases hl'
  have hlt : ∀ b ob, w.heap[b]? = some ob → ({ w with heap := w.heap.push o } : World).heap[b]? = some ob := fun b ob hb' => by
    have := lt_of_get hb'
    show (w.heap.push o)[b]? = some ob
    rw [Array.getElem?_push, if_neg (Nat.ne_of_lt this)]
    exact hb'
  have hold : ∀ m c, h.get m = some c → ∀ l', (ρ.add nm l) m = some l' → ρ m = some l' ∧ l'.blk < w.heap.size := fun m c hm l' hl' => by
    unfold Nm.add at hl'
    rw [if_neg (Ne.symm (hne m c hm))] at hl'
    obtain ⟨l2, hl2, ⟨c0, el, fz, hc, _⟩, _⟩ := hs.loc hm
    rw [hl'] at hl2; cases hl2
    exact ⟨hl', lt_of_get hc⟩
  constructor
  · intro m c hm
    rw [hget] at hm
    by_cases e : nm = m
    · subst e
      rw [if_pos rfl] at hm; cases hm
      refine ⟨l, Nm.add_self _ _ _, hr, ?_⟩
      cases hF : F l.blk with
      | none => rfl
      | some ob => exact absurd (lt_of_get (hs.frame _ _ hF)) (by omega)
    · rw [if_neg e] at hm
      obtain ⟨l', hl', ⟨c0, el, fz, hc, ⟨xs, hx, hgx⟩, h3⟩, hF⟩ := hs.loc hm
      exact ⟨l', Nm.le_add hnm _ _ hl', ⟨c0, el, fz, hlt _ _ hc, ⟨xs, VRs_mono (Nm.le_add hnm) _ _ hx, hgx⟩, h3⟩, hF⟩
  · intro m m' c c' l1 l2 hm hm' h1 h2 hbb
    rw [hget] at hm hm'
    by_cases e : nm = m
    · by_cases e' : nm = m'
      · rw [← e, ← e']
      · rw [if_neg e'] at hm'
        subst e
        rw [Nm.add_self] at h1; cases h1
        have := (hold m' c' hm' l2 h2).2
        omega
    · rw [if_neg e] at hm
      by_cases e' : nm = m'
      · subst e'
        rw [Nm.add_self] at h2; cases h2
        have := (hold m c hm l1 h1).2
        omega
      · rw [if_neg e'] at hm'
        exact hs.inj m m' c c' l1 l2 hm hm' (hold m c hm l1 h1).1 (hold m' c' hm' l2 h2).1 hbb
  · intro b ob hbF
    exact hlt _ _ (hs.frame b ob hbF)
  · intro m hm
    unfold Nm.add
    simp only at hm
    rw [if_neg (by omega)]
    exact hs.fresh m (by omega)
theorem push_same (w : World) (o : Obj) : Same w { w with heap := w.heap.push o } := ⟨rfl, rfl, rfl⟩
theorem RowAt.push {ρ : Nm} {w : World} {c : Array Value} {el : TypeId} {fz : Nat × Nat} {cs : List SV} {xs : List Value} (hx : VRs ρ cs xs) {lim : Nat} (hc : ∀ (i : Nat) (x : Value), xs[i]? = some x → c[i]? = some x)
    (h1 : cs.length ≤ lim) (h2 : lim ≤ c.size) (hf : ∀ i, i < lim → ¬ (fz.1 ≤ i ∧ i < fz.2)) :
    RowAt ρ ⟨w.heap.size, 0, lim⟩ cs { w with heap := w.heap.push (.cells c el fz) } :=
  ⟨c, el, fz, by simp, ⟨xs, hx, fun i x h => by simpa using hc i x h⟩, by simpa using h1, h2, fun i _ hi => hf i hi⟩
/-- Cells of a live row are written. -/
theorem storeN_sound {ρ : Nm} {h h' : Heap} {F : Fr} {w : World} (hs : Sim ρ h F w) {nm off : Nat} {vs : List SV} {xs : List Value} (hst : storeN h nm off vs = some h') (hx : VRs ρ vs xs)
    {l : Loc} (hn : ρ nm = some l) : ∃ w', (storeCells ⟨l.blk, l.base + off, none⟩ xs).run P w = .ok () w' ∧ Sim ρ h' F w' ∧ Same w w' := by
  unfold storeN at hst
  cases hg : h.get nm with
  | none => rw [hg] at hst; cases hst
  | some cs =>
    rw [hg] at hst
    simp only at hst
    split at hst
    case isFalse => cases hst
    case isTrue hc =>
      cases hst
      obtain ⟨l', hl', ⟨c, el, fz, hcc, ⟨ys, hy, hgy⟩, hlim, hsz, hfr⟩, hF⟩ := hs.loc hg
      rw [hn] at hl'; cases hl'
      have hxl := VRs_length hx
      have hyl := VRs_length hy
      obtain ⟨c', hr, hs', hg'⟩ := run_storeCells_row (P := P) l.blk (l.base + off) el fz xs 0 c w hcc (by omega) (fun j h1 h2 => hfr j (by omega) (by omega)) (VRs_one hx hc.2)
      refine ⟨_, hr, hs.set hg hn ⟨c', el, fz, setBlk_get_self hcc, ⟨_, VRs_splice hy hx off, fun i x hi => ?_⟩, by rw [splice_length hc.1]; exact hlim, by omega, hfr⟩, setBlk_same _ _ _⟩
      rw [hg']
      by_cases h1 : i < off
      · rw [if_neg (by omega)]
        apply hgy
        rw [List.getElem?_append_left (by simp; omega), List.getElem?_append_left (by simp; omega), List.getElem?_take, if_pos h1] at hi
        exact hi
      · by_cases h2 : i < off + xs.length
        · rw [if_pos (by omega)]
          rw [List.getElem?_append_left (by simp; omega), List.getElem?_append_right (by simp; omega)] at hi
          simp only [List.length_take] at hi
          rw [show i - min off ys.length = i - off by omega] at hi
          rw [show l.base + i - (l.base + off + 0) = i - off by omega]
          exact hi
        · rw [if_neg (by omega)]
          apply hgy
          rw [List.getElem?_append_right (by simp; omega), List.getElem?_drop] at hi
          simp only [List.length_append, List.length_take] at hi
          rw [show off + xs.length + (i - (min off ys.length + xs.length)) = i by omega] at hi
          exact hi
theorem storeT_sound {ρ : Nm} {h h' : Heap} {F : Fr} {w : World} (hs : Sim ρ h F w) {t nm off : Nat} {v : SV} {x : Value} (hst : storeT P h t nm off v = some h') (hx : VR ρ v x)
    {l : Loc} (hn : ρ nm = some l) : ∃ w', (storeVar t ⟨l.blk, l.base + off, none⟩ x).run P w = .ok () w' ∧ Sim ρ h' F w' ∧ Same w w' := by
  unfold storeT at hst
  split at hst
  case isFalse => cases hst
  case isTrue hz =>
    have hc := VR_cells hx
    obtain ⟨w', h1, h2, h3⟩ := storeN_sound (P := P) hs hst hc hn
    refine ⟨w', ?_, h2, h3⟩
    have hl := VRs_length hc
    simp only [Array.length_toList] at hl
    simp [storeVar, run_sizeOf hz, hl, h1]
end
end Go.D
