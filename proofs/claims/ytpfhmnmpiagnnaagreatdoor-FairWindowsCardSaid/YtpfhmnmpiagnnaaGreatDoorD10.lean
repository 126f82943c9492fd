/- D, part 10: append, copy, clear, store. -/
import Derived.Test.YtpfhmnmpiagnnaaGreatDoorD9
namespace Go.D
open Go

section
variable {P : Program} {ρ : Nm} {w : World}

/-- Names below k keep their places. -/
structure Ext (k : Nat) (ρ ρ' : Nm) : Prop where
  le : ρ.le ρ'
  low : ∀ nm, nm < k → ρ' nm = ρ nm
theorem Ext.refl (k : Nat) (ρ : Nm) : Ext k ρ ρ := ⟨Nm.le_refl _, fun _ _ => rfl⟩
theorem Ext.trans {k k' : Nat} {a b c : Nm} (h : Ext k a b) (h' : Ext k' b c) (hk : k ≤ k') : Ext k a c :=
  ⟨Nm.le_trans h.le h'.le, fun nm hn => (h'.low nm (by omega)).trans (h.low nm hn)⟩
theorem Ext.add {k nm : Nat} {ρ : Nm} {l : Loc} (h : ρ nm = none) (hk : k ≤ nm) : Ext k ρ (ρ.add nm l) :=
  ⟨Nm.le_add h, fun m hm => by unfold Nm.add; rw [if_neg (by omega)]⟩

/-- What an operation that turns memory leaves. -/
def Acts (ρ : Nm) (k : Nat) (h' : Heap) (F : Fr) (w : World) (v : SV) (s : Sem Value) (P : Program) : Prop :=
  ∃ ρ' x w', Ext k ρ ρ' ∧ VR ρ' v x ∧ s.run P w = .ok x w' ∧ Sim ρ' h' F w' ∧ Same w w'

theorem storeCells_nil (a : Addr) : (storeCells a []).run P w = .ok () w := rfl
theorem VRs_zeroCells {z : List SV} {zx : Array Value} (hz : VRs ρ z zx.toList) {es : Nat} (he : z.length = es) (hpos : 0 < es) (n : Nat) : VRs ρ (zeros z n) (Builtin.zeroCells zx n).toList := by
  have := VRs_zeros hz he hpos n
  have hs : zx.size = es := by have := VRs_length hz; simpa [he] using this
  unfold Builtin.zeroCells
  rw [hs] at this ⊢
  exact this
theorem zeroCells_size (zx : Array Value) (n : Nat) : (Builtin.zeroCells zx n).size = n * zx.size := by simp [Builtin.zeroCells]

/-- The row of a slice that was grown into a new block. -/
theorem grown_row {nm : Nat} (hnm : ρ nm = none) {es len n newCap : Nat} {old new : List SV} {xo xn : List Value} (ho : VRs ρ old xo) (hn : VRs ρ new xn) (hol : xo.length = len * es) (hnl : xn.length = n * es)
    {zx : Array Value} (hz : zx.size = es) (hc : len + n ≤ newCap) (el : TypeId) :
    RowAt (ρ.add nm ⟨w.heap.size, 0, newCap * es⟩) ⟨w.heap.size, 0, newCap * es⟩ (old ++ new) { w with heap := w.heap.push (.cells (⟨xo⟩ ++ ⟨xn⟩ ++ Builtin.zeroCells zx (newCap - (len + n))) el) } := by
  have hle : (len + n) * es ≤ newCap * es := Nat.mul_le_mul_right _ hc
  have hx := VRs_mono (Nm.le_add (l := ⟨w.heap.size, 0, newCap * es⟩) hnm) _ _ (VRs_append ho hn)
  refine RowAt.push hx (fun i x h => ?_) ?_ ?_ (fun i _ => by simp)
  · have hlt : i < (xo ++ xn).length := by
      rcases Nat.lt_or_ge i (xo ++ xn).length with h' | h'
      · exact h'
      · rw [List.getElem?_eq_none h'] at h; cases h
    rw [Array.getElem?_append_left (by simpa using hlt)]
    simpa using h
  · rw [List.length_append, ← VRs_length ho, ← VRs_length hn, hol, hnl, ← Nat.add_mul]; exact hle
  · simp only [Array.size_append, List.size_toArray, zeroCells_size, hol, hnl, hz]
    rw [Nat.sub_mul, ← Nat.add_mul]
    omega

theorem append_sound {h h' : Heap} {F : Fr} (hs : Sim ρ h F w) {elem : TypeId} {s x v : SV} {S X : Value} (hd : appendD P h elem s x = some (v, h')) (hS : VR ρ s S) (hX : VR ρ x X)
    {sT : TypeId} {argTypes : Array TypeId} {ty : TypeId} (h0 : argTypes[0]? = some sT) (hst : P.underlying sT = some (.slice elem))
    (h1 : ∀ t, argTypes[1]? = some t → ∃ d, P.underlying t = some d ∧ ∀ k, d ≠ .int k) : Acts ρ h.next h' F w v (Builtin.append_ argTypes ty #[S, X]) P := by
  unfold appendD at hd
  split at hd
  case h_2 => cases hd
  case h_1 i z n hi hz hn =>
  simp only at hd
  split at hd
  case isTrue => cases hd
  case isFalse hc =>
  have hc' : 0 < i.size ∧ z.cells.length = i.size ∧ 0 < i.bytes ∧ i.bytes ≤ 2 ^ 16 := by
    rcases Classical.em (0 < i.size ∧ z.cells.length = i.size ∧ 0 < i.bytes ∧ i.bytes ≤ 2 ^ 16) with h | h
    · exact h
    · exact absurd h hc
  obtain ⟨hpos, hzl, hb1, hb2⟩ := hc'
  have hsz : tsize P elem = some i.size := by simp [tsize, hi]
  obtain ⟨zx, hzx, hzr0⟩ := run_zero (P := P) ρ hz w
  have hzr : ∀ w, (zeroValue elem).run P w = .ok zx w := fun w2 => by
    obtain ⟨zx2, _, h2⟩ := run_zero (P := P) ρ hz w2
    have : zx2 = zx := by
      have e1 : (zeroValue elem).run P w = .ok zx w := hzr0
      unfold tzero at hz
      simp only [zeroValue, typeInfo, Sem.run_bind, run_program, Result.andThen_ok, hi, Sem.run_pure] at e1 h2
      cases hzz : i.zero with
      | none => rw [hzz] at e1; cases e1
      | some v0 => rw [hzz] at e1 h2; simp only [Sem.run_pure, Result.ok.injEq] at e1 h2; rw [← e1.1, ← h2.1]
    rw [← this]; exact h2
  have hzs : zx.cells.size = i.size := by have := VRs_length (VR_cells hzx); simpa [hzl] using this
  split at hd
  case h_1 => cases hd
  case h_2 new hnew =>
  have hlen : ∀ w2, (Builtin.lenOf X).run P w2 = .ok n w2 := fun w2 => run_lenOf hn hX
  have hle0 : ∀ k, lenD x = some k → n ≤ k := fun k hk => by rw [hn] at hk; cases hk; exact Nat.le_refl _
  have hs1 : Sim ρ h F { w with drawn := w.drawn + 1 } := hs.heap_eq rfl
  split at hd
  case isTrue => cases hd
  case isFalse hone =>
  have hone' : new.all SV.one = true := by simpa using hone
  split at hd
  case h_1 => -- onto nil
    cases hS
    split at hd
    · rename_i hn0
      subst hn0
      cases hd
      obtain ⟨xn, hxn, hxl, hrn⟩ := elems_sound (P := P) hs hnew hX hpos hle0
      refine ⟨ρ, _, w, Ext.refl _ _, rfl, run_append_fits h0 hst hsz h1 hlen (Nat.le_refl 0) hrn rfl, hs, Same.refl _⟩
    · rename_i hn0
      split at hd
      · rename_i hnb
        cases hd
        obtain ⟨xn, hxn, hxl, hrn⟩ := elems_sound (P := P) hs1 hnew hX hpos hle0
        obtain ⟨newCap, hcap, hrun⟩ := run_append_grows (w := w) (ty := ty) (base := none) (sLen := 0) (sCap := 0) h0 hst hi h1 hlen (by omega) ⟨hb1, hb2⟩ (by omega) (old := ⟨[]⟩) (by rfl) hrn hzr
        have hrow := grown_row (w := w) (hs.fresh _ (Nat.le_refl _)) (len := 0) VRs_nil' hxn (by simp) hxl hzs hcap elem
        refine ⟨_, _, _, Ext.add (hs.fresh _ (Nat.le_refl _)) (Nat.le_refl _), ?_, hrun, (hs.new rfl hrow).heap_eq rfl, ⟨rfl, rfl, rfl⟩⟩
        simp only [VR, capOf]
        refine ⟨_, _, Nm.add_self _ _ _, ?_, .inl rfl, ?_⟩
        · simp only [Nat.zero_add, Nat.sub_zero, Nat.mul_div_cancel _ hpos]
        · simp only [Nat.sub_zero, Nat.mul_div_cancel _ hpos]; omega
      · cases hd
  case h_3 => cases hd
  case h_2 nm off len es' cp =>
  split at hd
  case isTrue => cases hd
  case isFalse hne =>
  have hes : es' = i.size ∧ len + n ≤ 2 ^ 24 := ⟨Classical.byContradiction fun e => hne (.inl e), by omega⟩
  obtain ⟨rfl, hnb⟩ := hes
  obtain ⟨l, A, hl, rfl, hA, hlc⟩ := VR_slc hS
  split at hd
  case h_1 => cases hd
  case h_2 cs hg =>
  obtain ⟨l2, hl2, ⟨c, el, fz, hcc, ⟨ys, hy, hgy⟩, hlim, hcsz, hfr⟩, hF⟩ := hs.loc hg
  rw [hl] at hl2; cases hl2
  split at hd
  case isTrue hfit => -- it is surely in its place
    cases hd
    obtain ⟨xn, hxn, hxl, hrn⟩ := elems_sound (P := P) hs hnew hX hpos hle0
    have hcap : len + n ≤ capOf l off i.size cp := by
      cases cp with
      | some c0 => exact hfit.2 c0 rfl
      | none => simp only [capOf]; rw [Nat.le_div_iff_mul_le hpos]; omega
    have hst' : storeN h nm (off + len * i.size) new = some (h.put nm (splice cs (off + len * i.size) new)) := by
      unfold storeN
      rw [hg]
      simp only
      have hnl := VRs_length hxn
      rw [if_pos ⟨by rw [← hnl, hxl]; rw [Nat.add_mul] at hfit; omega, hone'⟩]
    obtain ⟨w', hw1, hw2, hw3⟩ := storeN_sound (P := P) hs hst' hxn hl
    have hput : ∃ w', (putCells (some A) (len * i.size) xn).run P w = .ok () w' ∧ Sim ρ (h.put nm (splice cs (off + len * i.size) new)) F w' ∧ Same w w' := by
      rcases hA with rfl | ⟨hl0, hc0⟩
      · exact ⟨w', by simp only [putCells, add_none]; rw [Nat.add_assoc]; exact hw1, hw2, hw3⟩
      · have hn0 : n = 0 := by omega
        subst hn0
        have : xn = [] := by simpa using hxl
        subst this
        refine ⟨w, rfl, ?_, Same.refl _⟩
        have hnew0 : new = [] := by have := VRs_length hxn; simpa using this.symm
        subst hnew0
        have hsp : splice cs (off + len * i.size) [] = cs := by simp [splice]
        rw [hsp]
        have := hs.set (cs' := cs) hg hl (o := .cells c el fz) ⟨c, el, fz, setBlk_get_self hcc, ⟨ys, hy, hgy⟩, hlim, hcsz, hfr⟩
        rwa [setBlk_self hcc] at this
    obtain ⟨w'', hp1, hp2, hp3⟩ := hput
    refine ⟨ρ, _, w'', Ext.refl _ _, ?_, run_append_fits h0 hst hsz h1 hlen hcap hrn hp1, hp2, hp3⟩
    simp only [VR]
    refine ⟨l, A, hl, rfl, ?_, hcap⟩
    rcases hA with h' | ⟨hl0, hc0⟩
    · exact .inl h'
    · exact .inr ⟨by omega, hc0⟩
  case isFalse hnofit =>
  -- what both ways of growing share
  have grow : ∀ (v : SV) (hh : Heap), movedD h nm off len n i.size new = some (v, hh) → capOf l off i.size cp < len + n → Acts ρ h.next hh F w v (Builtin.append_ argTypes ty #[.slice (some A) len (capOf l off i.size cp), X]) P := by
    intro v hh hmv hlt
    unfold movedD at hmv
    split at hmv
    case h_2 => cases hmv
    case h_1 old hold =>
    cases hmv
    obtain ⟨xn, hxn, hxl, hrn⟩ := elems_sound (P := P) hs1 hnew hX hpos hle0
    obtain ⟨xo, hxo, hxol, hro⟩ := elems_sound (P := P) (x := .slc nm off len i.size cp) (n := len) hs1 hold hS hpos (fun k hk => by cases hk; exact Nat.le_refl _)
    obtain ⟨newCap, hcap, hrun⟩ := run_append_grows (w := w) (ty := ty) h0 hst hi h1 hlen hlt ⟨hb1, hb2⟩ hnb hro hrn hzr
    have hrow := grown_row (w := w) (hs.fresh _ (Nat.le_refl _)) hxo hxn hxol hxl hzs hcap elem
    refine ⟨_, _, _, Ext.add (hs.fresh _ (Nat.le_refl _)) (Nat.le_refl _), ?_, hrun, (hs.new rfl hrow).heap_eq rfl, ⟨rfl, rfl, rfl⟩⟩
    simp only [VR, capOf]
    refine ⟨_, _, Nm.add_self _ _ _, ?_, .inl rfl, ?_⟩
    · simp only [Nat.sub_zero, Nat.mul_div_cancel _ hpos]
    · simp only [Nat.sub_zero, Nat.mul_div_cancel _ hpos]; omega
  split at hd
  case h_1 c0 => -- a stated capacity
    split at hd
    case isTrue => cases hd
    case isFalse hgt => exact grow v h' hd (by simp only [capOf]; omega)
  case h_2 =>
    split at hd
    case h_2 => cases hd
    case h_1 v1 h1' hmv =>
    cases hd
    by_cases hroom : capOf l off i.size none < len + n
    · obtain ⟨ρ', x', w', g1, g2, g3, g4, g5⟩ := grow v h1' hmv hroom
      exact ⟨ρ', x', w', g1, g2, g3, g4.drop nm, g5⟩
    · -- it had room after all
      have hroom' : len + n ≤ capOf l off i.size none := by omega
      unfold movedD at hmv
      split at hmv
      case h_2 => cases hmv
      case h_1 old hold =>
      cases hmv
      obtain ⟨xn, hxn, hxl, hrn⟩ := elems_sound (P := P) hs hnew hX hpos hle0
      unfold loadN at hold
      rw [hg] at hold
      simp only at hold
      obtain ⟨hxo, hol, hob⟩ := VRs_seg hy hold
      have hnl := VRs_length hxn
      have hcm : (len + n) * i.size ≤ l.lim - l.base - off := by
        simp only [capOf] at hroom'
        rwa [Nat.le_div_iff_mul_le hpos] at hroom'
      have hmul : (len + n) * i.size = len * i.size + n * i.size := Nat.add_mul _ _ _
      have hnpos : 0 < n := by
        rcases Nat.eq_zero_or_pos n with h | h
        · exfalso
          apply hnofit
          refine ⟨?_, by simp⟩
          rw [hmul, h, Nat.zero_mul]
          omega
        · exact h
      have hAx : A = ⟨l.blk, l.base + off, none⟩ := by
        rcases hA with h' | ⟨_, hc0⟩
        · exact h'
        · omega
      subst hAx
      have hnpos2 : 0 < n * i.size := Nat.mul_pos hnpos hpos
      obtain ⟨c', hr1, hcs', hg'⟩ := run_storeCells_row (P := P) l.blk (l.base + off + len * i.size) el fz xn 0 c w hcc (by omega) (fun j h1 h2 => hfr j (by omega) (by omega)) (VRs_one hxn hone')
      have hput : (putCells (some ⟨l.blk, l.base + off, none⟩) (len * i.size) xn).run P w = .ok () (setBlk w l.blk (.cells c' el fz)) := by
        simp only [putCells, add_none]; exact hr1
      have hnew0 : ρ h.next = none := hs.fresh _ (Nat.le_refl _)
      have hyl := VRs_length hy
      have hrow : RowAt (ρ.add h.next ⟨l.blk, l.base + off, l.lim⟩) ⟨l.blk, l.base + off, l.lim⟩ (old ++ new) (setBlk w l.blk (.cells c' el fz)) := by
        refine ⟨c', el, fz, setBlk_get_self hcc, ⟨_, VRs_mono (Nm.le_add hnew0) _ _ (VRs_append hxo hxn), fun k x hk => ?_⟩, ?_, by simp only; omega, fun k h1 h2 => hfr k (by simp only at h1; omega) h2⟩
        · simp only
          rw [hg']
          by_cases hlt : k < len * i.size
          · rw [if_neg (by omega)]
            rw [List.getElem?_append_left (by simp; omega), List.getElem?_take, if_pos hlt, List.getElem?_drop] at hk
            rw [show l.base + off + k = l.base + (off + k) by omega]
            exact hgy _ _ hk
          · rw [List.getElem?_append_right (by simp; omega)] at hk
            simp only [List.length_take, List.length_drop] at hk
            rw [show k - min (len * i.size) (ys.length - off) = k - len * i.size by omega] at hk
            have hklt : k - len * i.size < xn.length := by
              rcases Nat.lt_or_ge (k - len * i.size) xn.length with h | h
              · exact h
              · rw [List.getElem?_eq_none h] at hk; cases hk
            rw [if_pos (by omega)]
            rw [show l.base + off + k - (l.base + off + len * i.size + 0) = k - len * i.size by omega]
            exact hk
        · simp only [List.length_append, hol, ← hnl, hxl]; omega
      refine ⟨ρ.add h.next ⟨l.blk, l.base + off, l.lim⟩, _, _, Ext.add hnew0 (Nat.le_refl _), ?_, run_append_fits h0 hst hsz h1 hlen hroom' hrn hput, hs.rename (l' := ⟨l.blk, l.base + off, l.lim⟩) hg hl rfl hrow, setBlk_same _ _ _⟩
      have hcapeq : capOf ⟨l.blk, l.base + off, l.lim⟩ 0 i.size none = capOf l off i.size none := by
        simp only [capOf]; rw [show l.lim - (l.base + off) - 0 = l.lim - l.base - off by omega]
      simp only [VR]
      exact ⟨_, _, Nm.add_self _ _ _, by rw [hcapeq]; rfl, .inl rfl, by rw [hcapeq]; exact hroom'⟩

theorem copy_sound {h h' : Heap} {F : Fr} (hs : Sim ρ h F w) {elem : TypeId} {d x v : SV} {D X : Value} (hd : copyD P h elem d x = some (v, h')) (hD : VR ρ d D) (hX : VR ρ x X)
    {sT : TypeId} {argTypes : Array TypeId} {ty : TypeId} (h0 : argTypes[0]? = some sT) (hst : P.underlying sT = some (.slice elem)) : Acts ρ h.next h' F w v (Builtin.copy_ argTypes ty #[D, X]) P := by
  unfold copyD at hd
  split at hd
  case h_2 => cases hd
  case h_1 es0 dl xl hsz hdl hxl =>
  simp only at hd
  obtain ⟨es, hes0⟩ : ∃ es, es = es0 + 1 := ⟨_, rfl⟩
  have hsz : tsize P elem = some es := by rw [hes0]; exact hsz
  rw [← hes0] at hd
  have hpos : ¬ es = 0 := by omega
  split at hd
  case h_1 => cases hd
  case h_2 new hnew =>
  have hlx := run_lenOf (P := P) (w := w) hxl hX
  obtain ⟨xn, hxn, hxnl, hrn⟩ := elems_sound (P := P) hs hnew hX (by omega) (fun k hk => by rw [hxl] at hk; cases hk; omega)
  have hmin : Nat.min xl dl = min xl dl := rfl
  split at hd
  case h_1 =>
    cases hd; cases hD
    cases hdl
    refine ⟨ρ, _, w, Ext.refl _ _, rfl, ?_, hs, Same.refl _⟩
    simp only [Builtin.copy_, h0, List.getElem?_toArray, List.getElem?_cons_zero, List.getElem?_cons_succ, Sem.run_bind, run_underlying hst, Result.andThen_ok, hlx, run_sizeOf hsz, hmin, hrn, Sem.run_pure, goInt]
  case h_2 nm off len es' cp =>
    split at hd
    case isFalse => cases hd
    case isTrue hes =>
    subst hes
    split at hd
    case h_2 => cases hd
    case h_1 h1 hstn =>
    cases hd
    cases hdl
    obtain ⟨l, A, hl, rfl, hA, _⟩ := VR_slc hD
    obtain ⟨w', hw1, hw2, hw3⟩ := storeN_sound (P := P) hs hstn hxn hl
    rcases hA with rfl | ⟨hl0, _⟩
    · refine ⟨ρ, _, w', Ext.refl _ _, rfl, ?_, hw2, hw3⟩
      simp only [Builtin.copy_, h0, List.getElem?_toArray, List.getElem?_cons_zero, List.getElem?_cons_succ, Sem.run_bind, run_underlying hst, Result.andThen_ok, hlx, run_sizeOf hsz, hmin, hrn, hw1, Sem.run_pure, goInt]
    · subst hl0
      simp only [Nat.min_zero, Nat.zero_mul] at hxnl
      have : xn = [] := by simpa using hxnl
      subst this
      simp only [storeCells_nil] at hw1
      cases hw1
      refine ⟨ρ, _, w, Ext.refl _ _, rfl, ?_, hw2, hw3⟩
      simp only [Builtin.copy_, h0, List.getElem?_toArray, List.getElem?_cons_zero, List.getElem?_cons_succ, Sem.run_bind, run_underlying hst, Result.andThen_ok, hlx, run_sizeOf hsz, hmin, hrn, storeCells_nil, Sem.run_pure, goInt]
  case h_3 => cases hd
theorem clear_sound {h h' : Heap} {F : Fr} (hs : Sim ρ h F w) {elem : TypeId} {x : SV} {X : Value} (hd : clearD P h elem x = some h') (hX : VR ρ x X)
    {sT : TypeId} {argTypes : Array TypeId} {ty : TypeId} (h0 : argTypes[0]? = some sT) (hst : P.underlying sT = some (.slice elem)) : Acts ρ h.next h' F w (.tup []) (Builtin.clear_ argTypes ty #[X]) P := by
  unfold clearD at hd
  split at hd
  case h_1 =>
    cases hd; cases hX
    exact ⟨ρ, .tuple #[], w, Ext.refl _ _, by simp only [VR]; exact ⟨[], VRs_nil', rfl⟩, by simp [Builtin.clear_, h0, run_underlying hst], hs, Same.refl _⟩
  case h_2 nm off len es cp =>
    split at hd
    case h_2 => cases hd
    case h_1 s z hsz hz =>
    split at hd
    case isFalse => cases hd
    case isTrue hc =>
    obtain ⟨rfl, hzl, hpos⟩ := hc
    obtain ⟨zx, hzx, hzr⟩ := run_zero (P := P) ρ hz w
    obtain ⟨l, A, hl, rfl, hA, _⟩ := VR_slc hX
    obtain ⟨w', hw1, hw2, hw3⟩ := storeN_sound (P := P) hs hd (VRs_zeroCells (VR_cells hzx) hzl hpos len) hl
    cases len with
    | zero =>
      have hz0 : (Builtin.zeroCells zx.cells 0).toList = [] := by simp [Builtin.zeroCells]
      rw [hz0, storeCells_nil] at hw1
      cases hw1
      exact ⟨ρ, .tuple #[], w, Ext.refl _ _, by simp only [VR]; exact ⟨[], VRs_nil', rfl⟩, by simp [Builtin.clear_, h0, run_underlying hst], hw2, hw3⟩
    | succ len =>
      rcases hA with rfl | ⟨hl0, _⟩
      · refine ⟨ρ, .tuple #[], w', Ext.refl _ _, by simp only [VR]; exact ⟨[], VRs_nil', rfl⟩, ?_, hw2, hw3⟩
        simp only [Builtin.clear_, h0, List.getElem?_toArray, List.getElem?_cons_zero, Sem.run_bind, run_underlying hst, Result.andThen_ok, hzr, hw1, Sem.run_pure]
      · omega
  case h_3 => cases hd
end
end Go.D
