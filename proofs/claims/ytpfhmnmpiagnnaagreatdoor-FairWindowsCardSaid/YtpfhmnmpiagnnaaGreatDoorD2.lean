/- D, part 2: how a named heap stands in the model's world. -/
import Derived.Test.YtpfhmnmpiagnnaaGreatDoorD1
import Derived.Laws.Cells
import Derived.Laws.IdiomCopy
import Derived.Laws.StructEq
import Derived.Lib.FrozenHead
namespace Go.D
open Go

/-! ### Tries -/
namespace Tr
variable {α : Type}
theorem get_tip (i : Nat) : (Tr.tip : Tr α).get i = none := rfl
theorem get_one (v : Option α) : ∀ (f i j : Nat), i < f → (one f i v).get j = if i = j then v else none
  | 0, i, j, h => by omega
  | f + 1, i, j, h => by
    unfold one
    by_cases h0 : i = 0
    · subst h0
      simp only [if_true, get]
      by_cases hj : j = 0
      · simp [hj]
      · have hj' : ¬ 0 = j := fun e => hj e.symm
        simp only [hj, hj', if_false]
        split <;> rfl
    · by_cases h1 : i % 2 = 1
      · rw [if_neg h0, if_pos h1]
        simp only [get]
        by_cases hj : j = 0
        · subst hj; rw [if_pos rfl, if_neg h0]
        · rw [if_neg hj]
          by_cases hj1 : j % 2 = 1
          · rw [if_pos hj1, get_one v f _ _ (by omega)]
            by_cases e : i = j
            · subst e; simp
            · rw [if_neg e, if_neg (by omega)]
          · rw [if_neg hj1, if_neg (by intro e; subst e; omega)]
      · rw [if_neg h0, if_neg h1]
        simp only [get]
        by_cases hj : j = 0
        · subst hj; rw [if_pos rfl, if_neg h0]
        · rw [if_neg hj]
          by_cases hj1 : j % 2 = 1
          · rw [if_pos hj1, if_neg (by intro e; subst e; omega)]
          · rw [if_neg hj1, get_one v f _ _ (by omega)]
            by_cases e : i = j
            · subst e; simp
            · rw [if_neg e, if_neg (by omega)]
theorem get_put (v : Option α) : ∀ (t : Tr α) (i j : Nat), (t.put i v).get j = if i = j then v else t.get j
  | .tip, i, j => by rw [put, get_one v _ _ _ (by omega)]; rfl
  | .n x l r, i, j => by
    unfold put
    by_cases h0 : i = 0
    · subst h0
      simp only [if_true, get]
      by_cases hj : j = 0
      · subst hj; simp
      · have hj' : ¬ 0 = j := fun e => hj e.symm
        simp only [hj, hj', if_false]
    · by_cases h1 : i % 2 = 1
      · rw [if_neg h0, if_pos h1]
        simp only [get]
        by_cases hj : j = 0
        · subst hj; rw [if_pos rfl, if_pos rfl, if_neg h0]
        · rw [if_neg hj, if_neg hj]
          by_cases hj1 : j % 2 = 1
          · rw [if_pos hj1, if_pos hj1, get_put v l]
            by_cases e : i = j
            · subst e; simp
            · rw [if_neg e, if_neg (by omega)]
          · rw [if_neg hj1, if_neg hj1, if_neg (by intro e; subst e; omega)]
      · rw [if_neg h0, if_neg h1]
        simp only [get]
        by_cases hj : j = 0
        · subst hj; rw [if_pos rfl, if_pos rfl, if_neg h0]
        · rw [if_neg hj, if_neg hj]
          by_cases hj1 : j % 2 = 1
          · rw [if_pos hj1, if_pos hj1, if_neg (by intro e; subst e; omega)]
          · rw [if_neg hj1, if_neg hj1, get_put v r]
            by_cases e : i = j
            · subst e; simp
            · rw [if_neg e, if_neg (by omega)]
end Tr

theorem Heap.get_put (h : Heap) (nm nm' : Nat) (c : Chunk) : (h.put nm c).get nm' = if nm = nm' then some c else h.get nm' := by
  simp [Heap.get, Heap.put, Tr.get_put]
theorem Heap.get_new (h : Heap) (nm' : Nat) (c : Chunk) : (h.new c).get nm' = if h.next = nm' then some c else h.get nm' := by
  simp [Heap.get, Heap.new, Tr.get_put]
theorem Heap.get_drop (h : Heap) (nm nm' : Nat) : (h.drop nm).get nm' = if nm = nm' then none else h.get nm' := by
  simp [Heap.get, Heap.drop, Tr.get_put]
theorem Env.at_set_some (e : Env) (d t : Nat) (v : SV) : (e.set (some d) v).at t = if d = t then v else e.at t := by
  unfold Env.set Env.at
  rw [Tr.get_put]
  split <;> rfl

/-! ### Values -/
structure Loc where
  blk : Nat
  base : Nat
  lim : Nat
abbrev Nm := Nat → Option Loc
def Nm.le (ρ ρ' : Nm) : Prop := ∀ nm l, ρ nm = some l → ρ' nm = some l
theorem Nm.le_refl (ρ : Nm) : ρ.le ρ := fun _ _ h => h
theorem Nm.le_trans {a b c : Nm} (h : a.le b) (h' : b.le c) : a.le c := fun _ _ x => h' _ _ (h _ _ x)

/-- How many elements a slice has room for. -/
def capOf (l : Loc) (off es : Nat) : Option Nat → Nat
  | some c => c
  | none => (l.lim - l.base - off) / es
mutual
/-- A value of the model's is this one. -/
def VR (ρ : Nm) : SV → Value → Prop
  | .bool b, x => x = .bool b
  | .int k n, x => x = .int k n
  | .flt k b, x => x = .float k b
  | .str s, x => x = .string ⟨⟨s⟩⟩
  | .nilp, x => x = .pointer none
  | .ptr nm off, x => ∃ l, ρ nm = some l ∧ x = .pointer (some ⟨l.blk, l.base + off, none⟩)
  | .nils, x => x = .slice none 0 0
  | .slc nm off len es cp, x => ∃ l A, ρ nm = some l ∧ x = .slice (some A) len (capOf l off es cp) ∧ (A = ⟨l.blk, l.base + off, none⟩ ∨ (len = 0 ∧ capOf l off es cp = 0)) ∧ len ≤ capOf l off es cp
  | .nilm, x => x = .map none
  | .nilf, x => x = .nilFunc
  | .fn f a b, x => ∃ p q, VRs ρ a p ∧ VRs ρ b q ∧ x = .func f ⟨p⟩ ⟨q⟩
  | .yld nm, x => ∃ l, ρ nm = some l ∧ x = .func (.yield l.blk) ⟨[]⟩ ⟨[]⟩
  | .nili, x => x = .nilIface
  | .ifc t v, x => ∃ u, VR ρ v u ∧ x = .iface t u
  | .agg cs, x => ∃ l, VRs ρ cs l ∧ x = .agg ⟨l⟩
  | .tup cs, x => ∃ l, VRs ρ cs l ∧ x = .tuple ⟨l⟩
def VRs (ρ : Nm) : List SV → List Value → Prop
  | [], xs => xs = []
  | v :: vs, xs => ∃ x ys, xs = x :: ys ∧ VR ρ v x ∧ VRs ρ vs ys
end

mutual
theorem VR_mono {ρ ρ' : Nm} (h : ρ.le ρ') : ∀ (v : SV) (x : Value), VR ρ v x → VR ρ' v x
  | .bool _, _, e | .int _ _, _, e | .flt _ _, _, e | .str _, _, e | .nilp, _, e | .nils, _, e | .nilm, _, e | .nilf, _, e | .nili, _, e => by simpa only [VR] using e
  | .ptr nm off, x, e => by
    simp only [VR] at e ⊢
    obtain ⟨l, h1, h2⟩ := e
    exact ⟨l, h _ _ h1, h2⟩
  | .slc nm off len es cp, x, e => by
    simp only [VR] at e ⊢
    obtain ⟨l, A, h1, h2⟩ := e
    exact ⟨l, A, h _ _ h1, h2⟩
  | .fn f a b, x, e => by
    simp only [VR] at e ⊢
    obtain ⟨p, q, h1, h2, h3⟩ := e
    exact ⟨p, q, VRs_mono h _ _ h1, VRs_mono h _ _ h2, h3⟩
  | .yld nm, x, e => by
    simp only [VR] at e ⊢
    obtain ⟨l, h1, h2⟩ := e
    exact ⟨l, h _ _ h1, h2⟩
  | .ifc t v, x, e => by
    simp only [VR] at e ⊢
    obtain ⟨u, h1, h2⟩ := e
    exact ⟨u, VR_mono h _ _ h1, h2⟩
  | .agg cs, x, e => by
    simp only [VR] at e ⊢
    obtain ⟨l, h1, h2⟩ := e
    exact ⟨l, VRs_mono h _ _ h1, h2⟩
  | .tup cs, x, e => by
    simp only [VR] at e ⊢
    obtain ⟨l, h1, h2⟩ := e
    exact ⟨l, VRs_mono h _ _ h1, h2⟩
theorem VRs_mono {ρ ρ' : Nm} (h : ρ.le ρ') : ∀ (vs : List SV) (xs : List Value), VRs ρ vs xs → VRs ρ' vs xs
  | [], _, e => by simpa only [VRs] using e
  | v :: vs, xs, e => by
    simp only [VRs] at e ⊢
    obtain ⟨x, ys, h1, h2, h3⟩ := e
    exact ⟨x, ys, h1, VR_mono h _ _ h2, VRs_mono h _ _ h3⟩
end

theorem VRs_cons {ρ : Nm} {v : SV} {vs : List SV} {xs : List Value} (h : VRs ρ (v :: vs) xs) : ∃ x ys, xs = x :: ys ∧ VR ρ v x ∧ VRs ρ vs ys := by
  simpa only [VRs] using h
theorem VRs_mk {ρ : Nm} {v : SV} {vs : List SV} {x : Value} {xs : List Value} (h : VR ρ v x) (h' : VRs ρ vs xs) : VRs ρ (v :: vs) (x :: xs) := by
  simp only [VRs]; exact ⟨x, xs, rfl, h, h'⟩
theorem VRs_nil {ρ : Nm} {xs : List Value} (h : VRs ρ [] xs) : xs = [] := by simpa only [VRs] using h
theorem VRs_nil' {ρ : Nm} : VRs ρ [] [] := by simp only [VRs]
theorem VRs_iff {ρ : Nm} : ∀ {vs : List SV} {xs : List Value}, VRs ρ vs xs ↔ xs.length = vs.length ∧ ∀ (i : Nat) (v : SV), vs[i]? = some v → ∃ x, xs[i]? = some x ∧ VR ρ v x
  | [], xs => by
    constructor
    · intro h; rw [VRs_nil h]; exact ⟨rfl, by simp⟩
    · rintro ⟨h, _⟩; cases xs <;> simp_all [VRs]
  | v :: vs, xs => by
    constructor
    · intro h
      obtain ⟨x, ys, rfl, hx, hy⟩ := VRs_cons h
      obtain ⟨h1, h2⟩ := VRs_iff.1 hy
      refine ⟨by simp [h1], fun i u hu => ?_⟩
      cases i with
      | zero => simp at hu; subst hu; exact ⟨x, by simp, hx⟩
      | succ i => simpa using h2 i u (by simpa using hu)
    · rintro ⟨h, h2⟩
      cases xs with
      | nil => simp at h
      | cons x ys =>
        obtain ⟨x', hx', hx⟩ := h2 0 v (by simp)
        simp at hx'; subst hx'
        have hy : VRs ρ vs ys := VRs_iff.2 ⟨by simpa using h, fun i u hu => by simpa using h2 (i + 1) u (by simpa using hu)⟩
        exact VRs_mk hx hy
theorem VRs_length {ρ : Nm} {vs : List SV} {xs : List Value} (h : VRs ρ vs xs) : xs.length = vs.length := (VRs_iff.1 h).1
theorem VRs_get {ρ : Nm} {vs : List SV} {xs : List Value} (h : VRs ρ vs xs) {i : Nat} {v : SV} (hv : vs[i]? = some v) : ∃ x, xs[i]? = some x ∧ VR ρ v x := (VRs_iff.1 h).2 i v hv
theorem VRs_append {ρ : Nm} {vs us : List SV} {xs ys : List Value} (h : VRs ρ vs xs) (h' : VRs ρ us ys) : VRs ρ (vs ++ us) (xs ++ ys) := by
  have l1 := VRs_length h
  rw [VRs_iff]
  refine ⟨by simp [l1, VRs_length h'], fun i v hv => ?_⟩
  by_cases hi : i < vs.length
  · rw [List.getElem?_append_left hi] at hv
    obtain ⟨x, hx, hx'⟩ := VRs_get h hv
    exact ⟨x, by rw [List.getElem?_append_left (by omega)]; exact hx, hx'⟩
  · rw [List.getElem?_append_right (by omega)] at hv
    obtain ⟨x, hx, hx'⟩ := VRs_get h' hv
    exact ⟨x, by rw [List.getElem?_append_right (by omega), l1]; exact hx, hx'⟩
theorem VRs_take {ρ : Nm} {vs : List SV} {xs : List Value} (h : VRs ρ vs xs) (n : Nat) : VRs ρ (vs.take n) (xs.take n) := by
  rw [VRs_iff]
  refine ⟨by simp [VRs_length h], fun i v hv => ?_⟩
  rw [List.getElem?_take] at hv ⊢
  split at hv
  · rename_i hi; rw [if_pos hi]; exact VRs_get h hv
  · cases hv
theorem VRs_drop {ρ : Nm} {vs : List SV} {xs : List Value} (h : VRs ρ vs xs) (n : Nat) : VRs ρ (vs.drop n) (xs.drop n) := by
  rw [VRs_iff]
  refine ⟨by simp [VRs_length h], fun i v hv => ?_⟩
  rw [List.getElem?_drop] at hv ⊢
  exact VRs_get h hv
theorem VRs_seg {ρ : Nm} {vs : List SV} {xs : List Value} (h : VRs ρ vs xs) {off n : Nat} {us : List SV} (hs : seg vs off n = some us) :
    VRs ρ us ((xs.drop off).take n) ∧ us.length = n ∧ off + n ≤ vs.length := by
  unfold seg at hs
  split at hs
  · cases hs; exact ⟨VRs_take (VRs_drop h _) _, by simp; omega, by assumption⟩
  · cases hs
theorem VRs_splice {ρ : Nm} {vs us : List SV} {xs ys : List Value} (h : VRs ρ vs xs) (h' : VRs ρ us ys) (off : Nat) :
    VRs ρ (splice vs off us) (xs.take off ++ ys ++ xs.drop (off + ys.length)) := by
  unfold splice
  rw [VRs_length h']
  exact VRs_append (VRs_append (VRs_take h _) h') (VRs_drop h _)
theorem splice_length {α : List SV} {off : Nat} {us : List SV} (h : off + us.length ≤ α.length) : (splice α off us).length = α.length := by
  simp [splice]; omega
theorem VR_cells {ρ : Nm} {v : SV} {x : Value} (h : VR ρ v x) : VRs ρ v.cells x.cells.toList := by
  cases v
  case agg cs =>
    simp only [VR] at h
    obtain ⟨l, h1, rfl⟩ := h
    simpa [SV.cells, Value.cells] using h1
  all_goals
    have h' := h
    simp only [VR] at h
    have e : x.cells.toList = [x] := by
      first
        | (subst h; rfl)
        | (obtain ⟨_, _, rfl⟩ := h; rfl)
        | (obtain ⟨_, _, _, rfl, _⟩ := h; rfl)
        | (obtain ⟨_, _, _, _, rfl⟩ := h; rfl)
    rw [e]
    exact VRs_mk h' VRs_nil'
theorem VR_one {ρ : Nm} {v : SV} {x : Value} (h : VR ρ v x) (h1 : v.one = true) : x.oneCell' = true := by
  cases v <;> simp only [VR] at h <;> first
    | (simp [SV.one] at h1; done)
    | (subst h; rfl)
    | (obtain ⟨_, _, rfl⟩ := h; rfl)
    | (obtain ⟨_, _, _, rfl, _⟩ := h; rfl)
    | (obtain ⟨_, _, _, _, rfl⟩ := h; rfl)
theorem VRs_one {ρ : Nm} : ∀ {vs : List SV} {xs : List Value}, VRs ρ vs xs → vs.all SV.one = true → ∀ x ∈ xs, x.oneCell' = true
  | [], xs, h, _ => by rw [VRs_nil h]; simp
  | v :: vs, xs, h, h1 => by
    obtain ⟨x, ys, rfl, hx, hy⟩ := VRs_cons h
    simp at h1
    intro y hm
    rcases List.mem_cons.1 hm with rfl | hm
    · exact VR_one hx h1.1
    · exact VRs_one hy (by simpa using h1.2) y hm

mutual
theorem ofV_sound {ρ : Nm} : ∀ (v : Value) (s : SV), ofV v = some s → VR ρ s v
  | .bool _, s, h | .int _ _, s, h | .float _ _, s, h | .nilFunc, s, h | .nilIface, s, h | .pointer none, s, h | .map none, s, h => by
    simp only [ofV, Option.some.injEq] at h; subst h; simp only [VR]
  | .string ⟨⟨l⟩⟩, s, h => by simp only [ofV, Option.some.injEq] at h; subst h; simp only [VR]
  | .slice none 0 0, s, h => by simp only [ofV, Option.some.injEq] at h; subst h; simp only [VR]
  | .iface t v, s, h => by
    simp only [ofV] at h
    cases ha : ofV v with
    | none => rw [ha] at h; cases h
    | some a => rw [ha] at h; cases h; simp only [VR]; exact ⟨v, ofV_sound v a ha, rfl⟩
  | .func f ⟨a⟩ ⟨b⟩, s, h => by
    simp only [ofV] at h
    cases ha : ofVs a with
    | none => rw [ha] at h; cases h
    | some a' => cases hb : ofVs b with
      | none => rw [ha, hb] at h; cases h
      | some b' => rw [ha, hb] at h; cases h; simp only [VR]; exact ⟨a, b, ofVs_sound a a' ha, ofVs_sound b b' hb, rfl⟩
  | .agg ⟨cs⟩, s, h => by
    simp only [ofV] at h
    cases ha : ofVs cs with
    | none => rw [ha] at h; cases h
    | some a => rw [ha] at h; cases h; simp only [VR]; exact ⟨cs, ofVs_sound cs a ha, rfl⟩
  | .tuple ⟨cs⟩, s, h => by
    simp only [ofV] at h
    cases ha : ofVs cs with
    | none => rw [ha] at h; cases h
    | some a => rw [ha] at h; cases h; simp only [VR]; exact ⟨cs, ofVs_sound cs a ha, rfl⟩
  | .complex _ _ _, s, h | .chan _, s, h | .pointer (some _), s, h | .map (some _), s, h => by simp [ofV] at h
  | .slice (some _) _ _, s, h => by simp [ofV] at h
  | .slice none (n + 1) _, s, h => by simp [ofV] at h
  | .slice none 0 (n + 1), s, h => by simp [ofV] at h
theorem ofVs_sound {ρ : Nm} : ∀ (vs : List Value) (s : List SV), ofVs vs = some s → VRs ρ s vs
  | [], s, h => by simp only [ofVs, Option.some.injEq] at h; subst h; exact VRs_nil'
  | v :: vs, s, h => by
    simp only [ofVs] at h
    cases ha : ofV v with
    | none => rw [ha] at h; cases h
    | some a => cases hb : ofVs vs with
      | none => rw [ha, hb] at h; cases h
      | some b => rw [ha, hb] at h; cases h; exact VRs_mk (ofV_sound v a ha) (ofVs_sound vs b hb)
end

/-! ### Frames and worlds -/
abbrev Fr := Nat → Option Obj
def RowAt (ρ : Nm) (l : Loc) (cs : List SV) (w : World) : Prop :=
  ∃ c el fz, w.heap[l.blk]? = some (.cells c el fz) ∧ (∃ xs, VRs ρ cs xs ∧ ∀ i x, xs[i]? = some x → c[l.base + i]? = some x) ∧
    l.base + cs.length ≤ l.lim ∧ l.lim ≤ c.size ∧ (∀ i, l.base ≤ i → i < l.lim → ¬ (fz.1 ≤ i ∧ i < fz.2))
structure Sim (ρ : Nm) (h : Heap) (F : Fr) (w : World) : Prop where
  row : ∀ nm cs, h.get nm = some cs → ∃ l, ρ nm = some l ∧ RowAt ρ l cs w ∧ F l.blk = none
  inj : ∀ nm nm' cs cs' l l', h.get nm = some cs → h.get nm' = some cs' → ρ nm = some l → ρ nm' = some l' → l.blk = l'.blk → nm = nm'
  frame : ∀ b o, F b = some o → w.heap[b]? = some o
  fresh : ∀ nm, h.next ≤ nm → ρ nm = none
structure Rel (ρ : Nm) (nt : Nat) (e : Env) (a : Act) : Prop where
  size : nt ≤ a.tmps.size
  val : ∀ t, VR ρ (e.at t) (a.tmps.getD t undef)
structure Same (w w' : World) : Prop where
  tape : w'.tape = w.tape
  os : w'.os = w.os
  output : w'.output = w.output
theorem Same.refl (w : World) : Same w w := ⟨rfl, rfl, rfl⟩
theorem Same.trans {a b c : World} (h : Same a b) (h' : Same b c) : Same a c := ⟨h'.tape.trans h.tape, h'.os.trans h.os, h'.output.trans h.output⟩
theorem Rel.mono {ρ ρ' : Nm} {nt : Nat} {e : Env} {a : Act} (h : ρ.le ρ') (hr : Rel ρ nt e a) : Rel ρ' nt e a := ⟨hr.size, fun t => VR_mono h _ _ (hr.val t)⟩
theorem Rel.put {ρ : Nm} {nt : Nat} {e : Env} {a : Act} (hr : Rel ρ nt e a) {d : Option Nat} {v : SV} {x : Value} (hd : ∀ t, d = some t → t < nt) (hv : VR ρ v x) :
    Rel ρ nt (e.set d v) (a.put d x) := by
  cases d with
  | none => exact hr
  | some d =>
    have hdn := hd d rfl
    have hs := hr.size
    refine ⟨by simp [Act.put]; exact hs, fun t => ?_⟩
    rw [Env.at_set_some]
    by_cases e : d = t
    · subst e; simpa [Act.put, show d < a.tmps.size by omega] using hv
    · rw [if_neg e]
      have := hr.val t
      simpa [Act.put, Array.getD_eq_getD_getElem?, Array.getElem?_setIfInBounds_ne e] using this
theorem ev_sound {ρ : Nm} {nt : Nat} {e : Env} {a : Act} (hr : Rel ρ nt e a) {x : Operand} {v : SV} (h : ev e x = some v) : VR ρ v (a.eval x) := by
  cases x with
  | tmp t => simp only [ev, Option.some.injEq] at h; subst h; exact hr.val t
  | const c => exact ofV_sound c v h
  | func f => simp only [ev, Option.some.injEq] at h; subst h; simp only [VR]; exact ⟨[], [], VRs_nil', VRs_nil', rfl⟩
  | global g => simp [ev] at h
theorem evs_sound {ρ : Nm} {nt : Nat} {e : Env} {a : Act} (hr : Rel ρ nt e a) : ∀ {xs : List Operand} {vs : List SV}, evs e xs = some vs → VRs ρ vs (xs.map a.eval)
  | [], vs, h => by simp only [evs, Option.some.injEq] at h; subst h; exact VRs_nil'
  | x :: xs, vs, h => by
    simp only [evs] at h
    cases ha : ev e x with
    | none => rw [ha] at h; cases h
    | some v => cases hb : evs e xs with
      | none => rw [ha, hb] at h; cases h
      | some us => rw [ha, hb] at h; cases h; exact VRs_mk (ev_sound hr ha) (evs_sound hr hb)
end Go.D
