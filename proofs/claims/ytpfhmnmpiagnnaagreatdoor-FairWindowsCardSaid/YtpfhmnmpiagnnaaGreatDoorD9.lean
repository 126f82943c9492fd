/- D, part 9: what turns memory. -/
import Derived.Test.YtpfhmnmpiagnnaaGreatDoorD8
namespace Go.D
open Go

section
variable {P : Program} {ρ : Nm} {w : World}

/-- A row under a new name, in the block of one that is let go. -/
theorem Sim.rename {h : Heap} {F : Fr} (hs : Sim ρ h F w) {nm : Nat} {cs cs' : List SV} {l l' : Loc} {o : Obj} (hg : h.get nm = some cs) (hn : ρ nm = some l) (hb : l'.blk = l.blk)
    (hr : RowAt (ρ.add h.next l') l' cs' (setBlk w l.blk o)) : Sim (ρ.add h.next l') ((h.new cs').drop nm) F (setBlk w l.blk o) := by
  have hnew : ρ h.next = none := hs.fresh _ (Nat.le_refl _)
  have hF : F l.blk = none := by obtain ⟨l2, h2, _, hF⟩ := hs.loc hg; rw [hn] at h2; cases h2; exact hF
  have hne : nm ≠ h.next := fun e => by rw [← e, hn] at hnew; cases hnew
  have hget : ∀ m c, ((h.new cs').drop nm).get m = some c → m ≠ nm ∧ ((m = h.next ∧ c = cs') ∨ (m ≠ h.next ∧ h.get m = some c)) := fun m c hm => by
    rw [Heap.get_drop] at hm
    split at hm
    · cases hm
    · rename_i e
      rw [Heap.get_new] at hm
      split at hm
      · rename_i e2; cases hm; exact ⟨Ne.symm e, .inl ⟨e2.symm, rfl⟩⟩
      · rename_i e2; exact ⟨Ne.symm e, .inr ⟨Ne.symm e2, hm⟩⟩
  have key : ∀ m c, h.get m = some c → m ≠ nm → ∀ l2, ρ m = some l2 → l.blk ≠ l2.blk := fun m c hm hme l2 hl2 e => hme (hs.inj m nm c cs l2 l hm hg hl2 hn e.symm)
  have hadd : ∀ m, m ≠ h.next → (ρ.add h.next l') m = ρ m := fun m hm => by unfold Nm.add; rw [if_neg (Ne.symm hm)]
  constructor
  · intro m c hm
    obtain ⟨h1, ⟨rfl, rfl⟩ | ⟨h2, h3⟩⟩ := hget m c hm
    · exact ⟨l', Nm.add_self _ _ _, hr, by rw [hb]; exact hF⟩
    · obtain ⟨l2, hl2, ⟨c0, el, fz, hc, ⟨xs, hx, hgx⟩, h4⟩, hF2⟩ := hs.loc h3
      refine ⟨l2, by rw [hadd m h2]; exact hl2, ⟨c0, el, fz, ?_, ⟨xs, VRs_mono (Nm.le_add hnew) _ _ hx, hgx⟩, h4⟩, hF2⟩
      rw [setBlk_get_ne (key m c h3 h1 l2 hl2)]; exact hc
  · intro m m' c c' l1 l2 hm hm' h1 h2 hbb
    obtain ⟨g1, ⟨rfl, rfl⟩ | ⟨g2, g3⟩⟩ := hget m c hm
    · obtain ⟨k1, ⟨rfl, rfl⟩ | ⟨k2, k3⟩⟩ := hget m' c' hm'
      · rfl
      · rw [Nm.add_self] at h1; cases h1
        rw [hadd m' k2] at h2
        exact absurd (hb.symm.trans hbb) (key m' c' k3 k1 l2 h2)
    · rw [hadd m g2] at h1
      obtain ⟨k1, ⟨rfl, rfl⟩ | ⟨k2, k3⟩⟩ := hget m' c' hm'
      · rw [Nm.add_self] at h2; cases h2
        exact absurd (hb.symm.trans hbb.symm) (key m c g3 g1 l1 h1)
      · rw [hadd m' k2] at h2
        exact hs.inj m m' c c' l1 l2 g3 k3 h1 h2 hbb
  · intro b ob hbF
    rw [setBlk_get_ne (fun e => by rw [← e] at hbF; rw [hF] at hbF; cases hbF)]
    exact hs.frame b ob hbF
  · intro m hm
    simp only [Heap.drop, Heap.new] at hm
    rw [hadd m (by omega)]
    exact hs.fresh m (by omega)
theorem Sim.new {h : Heap} {F : Fr} (hs : Sim ρ h F w) {cs : List SV} {l : Loc} {o : Obj} (hb : l.blk = w.heap.size) (hr : RowAt (ρ.add h.next l) l cs { w with heap := w.heap.push o }) :
    Sim (ρ.add h.next l) (h.new cs) F { w with heap := w.heap.push o } :=
  hs.add (next' := h.next + 1) (hs.fresh _ (Nat.le_refl _)) (by omega) (by omega) hb hr

theorem elems_sound {h : Heap} {F : Fr} (hs : Sim ρ h F w) {size n : Nat} {x : SV} {X : Value} {new : List SV} (he : elems h size n x = some new) (hx : VR ρ x X) (hpos : 0 < size) (hn : ∀ k, lenD x = some k → n ≤ k) :
    ∃ xs, VRs ρ new xs ∧ xs.length = n * size ∧ (Builtin.firstCells size n X).run P w = .ok ⟨xs⟩ w := by
  cases x with
  | slc nm off len es cp =>
    simp only [elems] at he
    obtain ⟨l, A, hl, rfl, hA, _⟩ := VR_slc hx
    obtain ⟨xs, h1, h2, h3⟩ := loadN_sound (P := P) hs he hl
    refine ⟨xs, h1, h2, ?_⟩
    rcases hA with rfl | ⟨h0, _⟩
    · exact h3
    · have : n = 0 := by have := hn len rfl; omega
      subst this
      simp only [Nat.zero_mul] at h2 ⊢
      have hxs : xs = [] := by simpa using h2
      subst hxs
      simp [Builtin.firstCells, loadCells, loadCellsFrom]
  | nils =>
    cases hx
    simp only [elems] at he
    split at he
    · rename_i h0
      cases he
      subst h0
      exact ⟨[], VRs_nil', by simp, rfl⟩
    · cases he
  | str s =>
    cases hx
    simp only [elems] at he
    split at he
    · rename_i hc
      cases he
      obtain ⟨rfl, hle⟩ := hc
      refine ⟨(s.take n).map fun b => Value.int .u8 b.toNat, ?_, by simp; omega, ?_⟩
      · rw [VRs_iff]
        refine ⟨by simp [ofBytes], fun i v hv => ?_⟩
        simp only [ofBytes, List.getElem?_map] at hv ⊢
        cases hb : (s.take n)[i]? with
        | none => rw [hb] at hv; cases hv
        | some y => rw [hb] at hv; cases hv; exact ⟨_, rfl, rfl⟩
      · have he : (ByteArray.mk ⟨s⟩).extract 0 n = ByteArray.mk ⟨s.take n⟩ := by
          have := ByteArray.extract_mk s 0 n
          simpa using this
        simp only [Builtin.firstCells, he, Sem.run_pure]
        congr 1
        apply Array.ext'
        simp only [Array.toList_map]
    · cases he
  | _ => simp [elems] at he
theorem run_lenOf {x : SV} {X : Value} {n : Nat} (h : lenD x = some n) (hx : VR ρ x X) : (Builtin.lenOf X).run P w = .ok n w := by
  cases x <;> simp only [lenD] at h <;> try (cases h; done)
  case slc => cases h; obtain ⟨l, A, _, rfl, _⟩ := VR_slc hx; rfl
  case nils => cases h; cases hx; rfl
  case str s => cases h; cases hx; simp [Builtin.lenOf, ByteArray.size]
theorem growBy_le (newLen : Nat) : ∀ (r c : Nat), Builtin.growBy newLen r c ≤ max c (newLen + (newLen + 768) / 4)
  | 0, c => by simp [Builtin.growBy]; omega
  | r + 1, c => by
    simp only [Builtin.growBy]
    split
    · omega
    · have := growBy_le newLen r (c + (c + 768) / 4)
      omega
theorem nextslicecap_le (need old : Nat) (h : old < need) : Builtin.nextslicecap need old ≤ 2 * need + 1024 := by
  unfold Builtin.nextslicecap
  split
  · omega
  · split
    · omega
    · have := growBy_le need 4 old
      omega
/-- A slice that has no room is grown. -/
theorem run_append_grows {sT elem : TypeId} {argTypes : Array TypeId} {ty : TypeId} (h0 : argTypes[0]? = some sT) (hst : P.underlying sT = some (.slice elem)) {i : TypeInfo} (hi : P.info? elem = some i)
    (h1 : ∀ t, argTypes[1]? = some t → ∃ d, P.underlying t = some d ∧ ∀ k, d ≠ .int k) {base : Option Addr} {sLen sCap : Nat} {X : Value} {n : Nat} (hlen : ∀ w, (Builtin.lenOf X).run P w = .ok n w)
    (hgrow : sCap < sLen + n) (hb : 0 < i.bytes ∧ i.bytes ≤ 2 ^ 16) (hneed : sLen + n ≤ 2 ^ 24) {old new : Array Value} {zx : Value}
    (hold : (Builtin.firstCells i.size sLen (.slice base sLen sCap)).run P { w with drawn := w.drawn + 1 } = .ok old { w with drawn := w.drawn + 1 })
    (hnew : (Builtin.firstCells i.size n X).run P { w with drawn := w.drawn + 1 } = .ok new { w with drawn := w.drawn + 1 }) (hz : ∀ w, (zeroValue elem).run P w = .ok zx w) :
    ∃ newCap, sLen + n ≤ newCap ∧ (Builtin.append_ argTypes ty #[.slice base sLen sCap, X]).run P w =
      .ok (.slice (some ⟨w.heap.size, 0, none⟩) (sLen + n) newCap) { w with heap := w.heap.push (.cells (old ++ new ++ Builtin.zeroCells zx.cells (newCap - (sLen + n))) elem), drawn := w.drawn + 1 } := by
  have hsz : tsize P elem = some i.size := by simp [tsize, hi]
  generalize hcap : (Question.appendCap (sLen + n) sCap elem).cut (w.tape w.drawn (Question.appendCap (sLen + n) sCap elem)) = newCap
  have hcap' : sLen + n ≤ newCap := by rw [← hcap]; simp only [Question.cut]; omega
  refine ⟨newCap, hcap', ?_⟩
  have hng : ¬ sLen + n ≤ sCap := by omega
  have hnx : ¬ Builtin.nextslicecap (sLen + n) sCap * i.bytes > 2 ^ 48 := by
    have h2 := nextslicecap_le (sLen + n) sCap hgrow
    have : Builtin.nextslicecap (sLen + n) sCap * i.bytes ≤ (2 ^ 25 + 1024) * 2 ^ 16 := Nat.mul_le_mul (by omega) hb.2
    omega
  have hb0 : ¬ ((sLen + n : Nat) : Int) > IntKind.i64.max := by
    show ¬ ((sLen + n : Nat) : Int) > 9223372036854775807
    omega
  have hnz : ¬ (sLen + n) ≤ sCap := hng
  have hby : ¬ i.bytes = 0 := by omega
  have hforced : (Question.appendCap (sLen + n) sCap elem).forced = false := rfl
  have hq1 : ¬ (((sLen + n : Nat) : Int) > IntKind.i64.max ∧ (False ∨ i.bytes = 0)) := fun h => hb0 h.1
  cases ht : argTypes[1]? with
  | none =>
    simp only [Builtin.append_, h0, ht, List.getElem?_toArray, List.getElem?_cons_zero, List.getElem?_cons_succ, Sem.run_bind, run_underlying hst, Result.andThen_ok, run_sizeOf hsz, Sem.run_pure, Bool.false_eq_true, if_false, hlen, Bool.not_false, if_true]
    rw [Sem.run_ite, if_neg hng]
    simp only [Sem.run_bind, typeInfo, run_program, hi, Sem.run_pure, Result.andThen_ok]
    rw [Sem.run_ite, if_neg hq1]
    simp only [Sem.run_bind, run_program, hi, Sem.run_pure, Result.andThen_ok]
    rw [Sem.run_ite, if_neg hnx]
    simp only [Sem.run_bind, run_choose, hforced, Bool.false_eq_true, if_false, hcap, Result.andThen_ok, run_program, hi, Sem.run_pure, run_askRoom, hold, hnew, hz, newRow, run_newObj]
  | some t =>
    obtain ⟨d, hd, hk⟩ := h1 t ht
    cases d with
    | int k => exact absurd rfl (hk k)
    | _ =>
      simp only [Builtin.append_, h0, ht, List.getElem?_toArray, List.getElem?_cons_zero, List.getElem?_cons_succ, Sem.run_bind, run_underlying hst, run_underlying hd, Result.andThen_ok, run_sizeOf hsz, Sem.run_pure, Bool.false_eq_true, if_false, hlen, Bool.not_false, if_true]
      rw [Sem.run_ite, if_neg hng]
      simp only [Sem.run_bind, typeInfo, run_program, hi, Sem.run_pure, Result.andThen_ok]
      rw [Sem.run_ite, if_neg hq1]
      simp only [Sem.run_bind, run_program, hi, Sem.run_pure, Result.andThen_ok]
      rw [Sem.run_ite, if_neg hnx]
      simp only [Sem.run_bind, run_choose, hforced, Bool.false_eq_true, if_false, hcap, Result.andThen_ok, run_program, hi, Sem.run_pure, run_askRoom, hold, hnew, hz, newRow, run_newObj]
def putCells (base : Option Addr) (k : Nat) (vs : List Value) : Sem Unit := match base with | some a => storeCells (a.add k) vs | none => pure ()
/-- A slice that has room is written behind. -/
theorem run_append_fits {sT elem : TypeId} {argTypes : Array TypeId} {ty : TypeId} (h0 : argTypes[0]? = some sT) (hst : P.underlying sT = some (.slice elem)) {es : Nat} (hsz : tsize P elem = some es)
    (h1 : ∀ t, argTypes[1]? = some t → ∃ d, P.underlying t = some d ∧ ∀ k, d ≠ .int k) {base : Option Addr} {sLen sCap : Nat} {X : Value} {n : Nat} (hlen : ∀ w, (Builtin.lenOf X).run P w = .ok n w)
    (hfit : sLen + n ≤ sCap) {new : Array Value} (hnew : (Builtin.firstCells es n X).run P w = .ok new w) {w' : World}
    (hst2 : (putCells base (sLen * es) new.toList).run P w = .ok () w') :
    (Builtin.append_ argTypes ty #[.slice base sLen sCap, X]).run P w = .ok (.slice base (sLen + n) sCap) w' := by
  cases ht : argTypes[1]? with
  | none =>
    simp only [Builtin.append_, h0, ht, List.getElem?_toArray, List.getElem?_cons_zero, List.getElem?_cons_succ, Sem.run_bind, run_underlying hst, Result.andThen_ok, run_sizeOf hsz, Sem.run_pure, Bool.false_eq_true, if_false, hlen, Bool.not_false, if_true]
    rw [Sem.run_ite, if_pos hfit, Sem.run_bind, hnew, Result.andThen_ok]
    cases base with
    | none => simp only [putCells, Sem.run_pure, Result.ok.injEq, true_and] at hst2; subst hst2; rfl
    | some a => simp only [putCells] at hst2; simp [hst2]
  | some t =>
    obtain ⟨d, hd, hk⟩ := h1 t ht
    cases d with
    | int k => exact absurd rfl (hk k)
    | _ =>
      simp only [Builtin.append_, h0, ht, List.getElem?_toArray, List.getElem?_cons_zero, List.getElem?_cons_succ, Sem.run_bind, run_underlying hst, run_underlying hd, Result.andThen_ok, run_sizeOf hsz, Sem.run_pure, Bool.false_eq_true, if_false, hlen, Bool.not_false, if_true]
      rw [Sem.run_ite, if_pos hfit, Sem.run_bind, hnew, Result.andThen_ok]
      cases base with
      | none => simp only [putCells, Sem.run_pure, Result.ok.injEq, true_and] at hst2; subst hst2; rfl
      | some a => simp only [putCells] at hst2; simp [hst2]
end
end Go.D
