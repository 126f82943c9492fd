/- D, part 6: slices and composites; 'stillD' is the model's. -/
import Derived.Test.YtpfhmnmpiagnnaaGreatDoorD5
import Derived.Lib.Strings
import Derived.Laws.Build
namespace Go.D
open Go

section
variable {P : Program} {ρ : Nm} {w : World}

theorem boundD_le {v : SV} {y i : Nat} (h : boundD v y = some i) : i ≤ y := by
  unfold boundD at h
  split at h
  · split at h
    · cases h; omega
    · cases h
  · cases h
theorem boundO_le {e : Env} {o : Option Operand} {y d i : Nat} (h : boundO e o y d = some i) (hd : d ≤ y) : i ≤ y := by
  cases o with
  | none => rw [boundO_none] at h; cases h; exact hd
  | some x =>
    simp only [boundO] at h
    split at h
    · exact boundD_le h
    · cases h
theorem boundsD_le {e : Env} {len cap : Nat} {lo hi mx : Option Operand} {p q m : Nat} (h : boundsD e len cap lo hi mx = some (p, q, m)) :
    p ≤ q ∧ (hi = none → q = len) ∧ (hi.isSome → q ≤ m) ∧ m ≤ cap ∧ (mx = none → m = cap) ∧ (mx.isSome → hi.isSome) := by
  unfold boundsD at h
  split at h
  · cases h
  · rename_i m' hm
    have hmc := boundO_le hm (Nat.le_refl _)
    split at h
    · cases h
    · rename_i b hb
      split at h
      · rename_i a ha
        cases h
        have hab := boundO_le ha (Nat.zero_le _)
        cases hi with
        | none =>
          cases mx with
          | none =>
            simp only [boundO_none] at hb hm
            cases hb; cases hm
            exact ⟨hab, fun _ => rfl, by simp, Nat.le_refl _, fun _ => rfl, by simp⟩
          | some _ => cases hb
        | some x =>
          have hb' : boundO e (some x) m len = some q := by cases mx <;> exact hb
          have : q ≤ m := by
            simp only [boundO] at hb'
            split at hb'
            · exact boundD_le hb'
            · cases hb'
          refine ⟨hab, by simp, fun _ => this, hmc, fun e0 => ?_, by simp⟩
          subst e0
          rw [boundO_none] at hm; cases hm; rfl
      · cases h
theorem sliceAt_slice {t el : TypeId} (ht : P.underlying t = some (.slice el)) (x : Value) (lo hi mx : Option Value) : (Instr.sliceAt t x lo hi mx).run P w = (Instr.slice t x lo hi mx).run P w := by
  simp [Instr.sliceAt, run_underlying ht]
theorem run_slice {t el : TypeId} (ht : P.underlying t = some (.slice el)) {es : Nat} (hs : tsize P el = some es) {A : Option Addr} {len cap p q m : Nat} {lo hi mx : Option Value}
    (hb : (Instr.sliceBounds true len cap lo hi mx).run P w = .ok (p, q, m) w) :
    (Instr.sliceAt t (.slice A len cap) lo hi mx).run P w = .ok (.slice (if m = p then A else A.map (·.add (p * es))) (q - p) (m - p)) w := by
  rw [sliceAt_slice ht]
  simp [Instr.slice, run_underlying ht, hb, run_sizeOf hs]
theorem div_sub_mul (x a es : Nat) : (x - a * es) / es = x / es - a := by
  rw [Nat.mul_comm, Nat.sub_mul_div]
theorem sliceD_sound {h : Heap} {F : Fr} (hs : Sim ρ h F w) {nt : Nat} {e : Env} {a : Act} (hr : Rel ρ nt e a) {t : TypeId} {v r : SV} {x : Value} {lo hi mx : Option Operand}
    (hd : sliceD P h e t v lo hi mx = some r) (hx : VR ρ v x) : ∃ z, VR ρ r z ∧ (Instr.sliceAt t x (lo.map a.eval) (hi.map a.eval) (mx.map a.eval)).run P w = .ok z w := by
  cases v with
  | str s =>
    cases hx
    simp only [sliceD] at hd
    split at hd
    · rename_i hu
      split at hd
      · cases hd
      · rename_i hm
        cases mx with
        | some _ => simp at hm
        | none =>
          split at hd
          · rename_i p q m hb
            cases hd
            refine ⟨_, rfl, ?_⟩
            have hsz : (ByteArray.mk ⟨s⟩).size = s.length := by simp [ByteArray.size]
            have := boundsD_sound (P := P) (w := w) hr hb (Nat.le_refl _) false
            simp only [Option.map_none] at this
            have he : (ByteArray.mk ⟨s⟩).extract p q = ByteArray.mk ⟨(s.drop p).take (q - p)⟩ := by
              have := ByteArray.extract_mk s p q
              simpa using this
            simp only [Instr.sliceAt, Instr.slice, Sem.run_bind, run_underlying hu, Result.andThen_ok, Option.map_none, Option.isSome_none, Bool.false_eq_true, if_false, Sem.run_pure, hsz, this, he]
          · cases hd
    · cases hd
  | nils =>
    cases hx
    simp only [sliceD] at hd
    split at hd
    · rename_i el hel
      split at hd
      · rename_i hsz
        split at hd
        · rename_i r' hb
          obtain ⟨p, q, m⟩ := r'
          cases hd
          refine ⟨_, rfl, ?_⟩
          have hle := boundsD_le hb
          have h1 := boundsD_sound (P := P) (w := w) hr hb (Nat.le_refl _) true
          have hm0 : m = 0 := by omega
          have hq0 : q = 0 := by
            cases hhi : hi with
            | none => exact hle.2.1 hhi
            | some _ => have := hle.2.2.1 (by simp [hhi]); omega
          have hp0 : p = 0 := by omega
          subst hm0; subst hq0; subst hp0
          obtain ⟨n, hn⟩ := Option.isSome_iff_exists.1 hsz
          have h1' : (Instr.sliceBounds true 0 0 (lo.map a.eval) (hi.map a.eval) (mx.map a.eval)).run P w = .ok (0, 0, 0) w := by
            rw [h1]; split <;> rfl
          rw [run_slice (telem_sound hel) hn h1']
          rfl
        · cases hd
      · cases hd
    · cases hd
  | slc nm off len es cp =>
    simp only [sliceD] at hd
    split at hd
    · rename_i el hel
      split at hd
      · rename_i hes
        obtain ⟨hsz, hpos⟩ := hes
        obtain ⟨l, A, hl, rfl, hA, hlen⟩ := VR_slc hx
        split at hd
        · cases hd
        · rename_i c hc
          have hcc : c ≤ capOf l off es cp ∧ (cp.isSome → c = capOf l off es cp) := by
            unfold roomD at hc
            split at hc
            · cases hc; exact ⟨Nat.le_refl _, fun _ => rfl⟩
            · split at hc
              · rename_i cs hg
                cases hc
                obtain ⟨l', hl', ⟨c0, el0, fz, _, _, hlim, _⟩, _⟩ := hs.loc hg
                rw [hl] at hl'; cases hl'
                refine ⟨?_, by simp⟩
                simp only [capOf]
                exact Nat.div_le_div_right (by omega)
              · cases hc
          split at hd
          · rename_i p q m hb
            have hle := boundsD_le hb
            have h1 := boundsD_sound (P := P) (w := w) hr hb hcc.1 true
            have hq : q ≤ if mx.isSome then m else capOf l off es cp := by
              cases hhi : hi with
              | none =>
                have hmn : mx = none := by
                  cases hmx : mx with
                  | none => rfl
                  | some _ => have := hle.2.2.2.2.2 (by simp [hmx]); simp [hhi] at this
                rw [hle.2.1 hhi, hmn]; exact hlen
              | some _ =>
                have := hle.2.2.1 (by simp [hhi])
                split <;> omega
            rw [run_slice (telem_sound hel) hsz h1]
            generalize hM : (if mx.isSome then m else capOf l off es cp) = M at *
            have hadr : (if M = p then some A else (some A).map (·.add (p * es))) = some (if M = p then A else A.add (p * es)) := by split <;> rfl
            rw [hadr]
            have hor : (if M = p then A else A.add (p * es)) = ⟨l.blk, l.base + (off + p * es), none⟩ ∨ (q - p = 0 ∧ M - p = 0) := by
              by_cases hMp : M = p
              · exact .inr ⟨by omega, by omega⟩
              · rw [if_neg hMp]
                rcases hA with rfl | ⟨h0, h00⟩
                · left; rw [add_none, Nat.add_assoc]
                · exfalso
                  have : M = 0 := by
                    rw [← hM]; split
                    · have := hle.2.2.2.1; omega
                    · exact h00
                  omega
            split at hd
            · rename_i hsome
              cases hd
              have hmM : m = M := by
                rw [← hM]
                split
                · rfl
                · rename_i hmx
                  have hmn : mx = none := by simpa using hmx
                  rw [hle.2.2.2.2.1 hmn]
                  exact hcc.2 (by rcases hsome with h' | h' <;> simp_all)
              refine ⟨_, ?_, rfl⟩
              simp only [VR, capOf]
              exact ⟨l, _, hl, by rw [hmM], by rw [hmM]; exact hor, by omega⟩
            · rename_i hsome
              cases hd
              have hmn : mx = none := by
                cases hmx : mx with
                | none => rfl
                | some _ => exact absurd (.inl (by simp [hmx])) hsome
              have hcn : cp = none := by
                cases hcx : cp with
                | none => rfl
                | some _ => exact absurd (.inr (by simp [hcx])) hsome
              subst hmn; subst hcn
              simp only [Option.isSome_none, Bool.false_eq_true, if_false] at hM
              have hcap : capOf l (off + p * es) es none = M - p := by
                rw [← hM]; simp only [capOf]
                rw [show l.lim - l.base - (off + p * es) = l.lim - l.base - off - p * es by omega, div_sub_mul]
              refine ⟨_, ?_, rfl⟩
              simp only [VR]
              exact ⟨l, _, hl, by rw [hcap], by rw [hcap]; exact hor, by rw [hcap]; omega⟩
          · cases hd
      · cases hd
    · cases hd
  | ptr nm off =>
    simp only [sliceD] at hd
    obtain ⟨l, hl, rfl⟩ := VR_ptr hx
    split at hd
    · rename_i n el hel
      split at hd
      · rename_i es hsz
        split at hd
        · rename_i hpos
          split at hd
          · rename_i p q m hb
            cases hd
            have hle := boundsD_le hb
            have h1 := boundsD_sound (P := P) (w := w) hr hb (Nat.le_refl _) false
            have hm : (if mx.isSome then m else n) = m := by
              split
              · rfl
              · rename_i hmx; exact (hle.2.2.2.2.1 (by simpa using hmx)).symm
            rw [hm] at h1
            have hq : q ≤ m := by
              cases hhi : hi with
              | none =>
                rw [hle.2.1 hhi]
                have hmn : mx = none := by
                  cases hmx : mx with
                  | none => rfl
                  | some _ => have := hle.2.2.2.2.2 (by simp [hmx]); simp [hhi] at this
                exact Nat.le_of_eq (hle.2.2.2.2.1 hmn).symm
              | some _ => exact hle.2.2.1 (by simp [hhi])
            refine ⟨_, ?_, by simp only [Instr.sliceAt, Sem.run_bind, run_underlying (tarr_sound hel), Result.andThen_ok, Instr.sureAddr, Sem.run_pure, h1, run_sizeOf hsz]; rfl⟩
            simp only [VR, capOf]
            refine ⟨l, _, hl, rfl, ?_, by omega⟩
            by_cases hMp : m = p
            · exact .inr ⟨by omega, by omega⟩
            · rw [if_neg hMp]; left; rw [add_none, Nat.add_assoc]
          · cases hd
        · cases hd
      · cases hd
    · cases hd
  | _ => simp [sliceD] at hd

/-! ### Composites -/
theorem foldl_set (off : Nat) : ∀ (xs : List Value) (i : Nat) (c : Array Value), off + i + xs.length ≤ c.size →
    (((xs.zipIdx i).foldl (fun cs (p : Value × Nat) => cs.setIfInBounds (off + p.2) p.1) c).size = c.size ∧
     ∀ j, ((xs.zipIdx i).foldl (fun cs (p : Value × Nat) => cs.setIfInBounds (off + p.2) p.1) c)[j]? = if off + i ≤ j ∧ j < off + i + xs.length then xs[j - (off + i)]? else c[j]?)
  | [], i, c, _ => ⟨rfl, fun j => by rw [if_neg (by simp only [List.length_nil]; omega)]; rfl⟩
  | x :: xs, i, c, h => by
    simp only [List.length_cons] at h
    simp only [List.zipIdx_cons, List.foldl_cons]
    obtain ⟨h1, h2⟩ := foldl_set off xs (i + 1) (c.setIfInBounds (off + i) x) (by simp; omega)
    refine ⟨by rw [h1]; simp, fun j => ?_⟩
    rw [h2]
    by_cases hj : j = off + i
    · subst hj
      rw [if_neg (by omega), if_pos (by simp only [List.length_cons]; omega)]
      simp [show off + i < c.size by omega]
    · by_cases hj2 : off + (i + 1) ≤ j ∧ j < off + (i + 1) + xs.length
      · rw [if_pos hj2, if_pos (by simp only [List.length_cons]; omega)]
        rw [show j - (off + i) = (j - (off + (i + 1))) + 1 by omega, List.getElem?_cons_succ]
      · rw [if_neg hj2, if_neg (by simp only [List.length_cons]; omega), Array.getElem?_setIfInBounds_ne (by omega)]
theorem foldl_splice {off : Nat} {xs : Array Value} {c : Array Value} (h : off + xs.size ≤ c.size) :
    xs.zipIdx.foldl (fun cs (p : Value × Nat) => cs.setIfInBounds (off + p.2) p.1) c = (c.toList.take off ++ xs.toList ++ c.toList.drop (off + xs.toList.length)).toArray := by
  obtain ⟨h1, h2⟩ := foldl_set off xs.toList 0 c (by simpa using h)
  rw [← Array.foldl_toList]
  simp only [Array.toList_zipIdx]
  apply Array.ext_getElem?
  intro j
  rw [h2]
  simp only [Nat.add_zero, Array.length_toList, List.getElem?_toArray]
  by_cases hj : j < off
  · rw [if_neg (by omega), List.getElem?_append_left (by simp; omega), List.getElem?_append_left (by simp; omega), List.getElem?_take, if_pos hj]; simp
  · by_cases hj2 : j < off + xs.size
    · rw [if_pos (by omega), List.getElem?_append_left (by simp; omega), List.getElem?_append_right (by simp; omega)]
      simp only [List.length_take, Array.length_toList]
      rw [show min off c.size = off by omega]
    · rw [if_neg (by omega), List.getElem?_append_right (by simp; omega), List.getElem?_drop]
      simp only [List.length_append, List.length_take, Array.length_toList]
      rw [show off + xs.size + (j - (min off c.size + xs.size)) = j by omega]
      simp
theorem fill_sound {place : Nat → Option (Nat × Nat)} {e : Env} {a : Act} {nt : Nat} (hr : Rel ρ nt e a) {t : TypeId} (hp : ∀ i p, placeD P t i = some p → place i = some p) :
    ∀ (parts : List (Nat × Operand)) (ps : List (Nat × SV)) (cs cs' : List SV) (l : List Value), partsD P e t parts = some ps → fillD cs ps = some cs' → VRs ρ cs l →
    ∃ l', VRs ρ cs' l' ∧ Instr.fill place ⟨l⟩ (parts.map fun p => (p.1, a.eval p.2)) = some ⟨l'⟩
  | [], ps, cs, cs', l, h1, h2, h3 => by
    simp only [partsD, Option.some.injEq] at h1; subst h1
    simp only [fillD, Option.some.injEq] at h2; subst h2
    exact ⟨l, h3, rfl⟩
  | (i, x) :: parts, ps, cs, cs', l, h1, h2, h3 => by
    simp only [partsD] at h1
    split at h1
    · rename_i off n v ps' hpl hv hps
      split at h1
      · rename_i hn
        cases h1
        simp only [fillD] at h2
        split at h2
        · rename_i hin
          have hvx := VR_cells (ev_sound hr hv)
          have hvl := VRs_length hvx
          have hcl := VRs_length h3
          obtain ⟨l', h4, h5⟩ := fill_sound hr hp parts ps' _ cs' _ hps h2 (VRs_splice h3 hvx off)
          refine ⟨l', h4, ?_⟩
          simp only [List.map_cons, Instr.fill, hp i _ hpl]
          have hsz : (a.eval x).cells.size = n := by rw [← hn, ← hvl]; simp
          rw [if_neg (by simp [hsz]; omega)]
          rw [foldl_splice (by simp only [List.size_toArray]; omega)]
          simpa using h5
        · cases h2
      · cases h1
    · cases h1
theorem run_places : ∀ (fs : List Field), (fs.all fun f => (tsize P f.type).isSome) = true →
    (fs.mapM (fun (f : Field) => do pure (f.offset, ← sizeOf f.type) : Field → Sem (Nat × Nat))).run P w = .ok (fs.map fun f => (f.offset, (tsize P f.type).getD 0)) w
  | [], _ => by simp
  | f :: fs, h => by
    simp only [List.all_cons, Bool.and_eq_true] at h
    obtain ⟨n, hn⟩ := Option.isSome_iff_exists.1 h.1
    have ih := run_places fs h.2
    simp only [List.mapM_cons, Sem.run_bind, run_sizeOf hn, Result.andThen_ok, Sem.run_pure, ih, List.map_cons, hn, Option.getD_some]
theorem build_sound {nt : Nat} {e : Env} {a : Act} (hr : Rel ρ nt e a) {t : TypeId} {parts : Array (Nat × Operand)} {z : SV} {ps : List (Nat × SV)} {cs : List SV}
    (hz : tzero P t = some z) (hps : partsD P e t parts.toList = some ps) (hk : kindB P t = true) (hf : fillD z.cells ps = some cs) :
    ∃ x, VR ρ (.agg cs) x ∧ (Instr.build t (parts.map fun (i, x) => (i, a.eval x))).run P w = .ok x w := by
  obtain ⟨zx, hzx, hzr⟩ := run_zero (P := P) ρ hz w
  have hzc := VR_cells hzx
  unfold kindB at hk
  split at hk
  · rename_i fs hu
    have hp : ∀ i p, placeD P t i = some p → ((fs.toList.map fun f => (f.offset, (tsize P f.type).getD 0)).toArray)[i]? = some p := fun i p h => by
      unfold placeD at h
      rw [hu] at h
      simp only at h
      split at h
      · rename_i f hf'
        split at h
        · rename_i n hn
          cases h
          simp [hf', hn]
        · cases h
      · cases h
    obtain ⟨l', h1, h2⟩ := fill_sound hr hp parts.toList ps z.cells cs _ hps hf hzc
    refine ⟨.agg ⟨l'⟩, by simp only [VR]; exact ⟨l', h1, rfl⟩, ?_⟩
    have hpl := run_places (P := P) (w := w) fs.toList hk
    have hm : (fs.mapM (fun (f : Field) => do pure (f.offset, ← sizeOf f.type) : Field → Sem (Nat × Nat))).run P w = .ok (fs.toList.map fun f => (f.offset, (tsize P f.type).getD 0)).toArray w := by
      rw [Array.mapM_eq_mapM_toList, Sem.run_map, hpl]
      rfl
    simp only [Instr.build, Sem.run_bind, hzr, Result.andThen_ok, run_underlying hu, hm, Array.toList_map]
    have h3 : Instr.fill (fun x => (List.map (fun f => (f.offset, (tsize P f.type).getD 0)) fs.toList).toArray[x]?) zx.cells (List.map (fun p => (p.1, a.eval p.2)) parts.toList) = some ⟨l'⟩ := h2
    rw [h3]
    rfl
  · rename_i n el hu
    cases hsz : tsize P el with
    | none => rw [hsz] at hk; cases hk
    | some s =>
      have hp : ∀ i p, placeD P t i = some p → (fun i => some (i * s, s)) i = some p := fun i p h => by
        unfold placeD at h
        rw [hu] at h
        simp only [hsz] at h
        exact h
      obtain ⟨l', h1, h2⟩ := fill_sound hr hp parts.toList ps z.cells cs _ hps hf hzc
      refine ⟨.agg ⟨l'⟩, by simp only [VR]; exact ⟨l', h1, rfl⟩, ?_⟩
      simp only [Instr.build, Sem.run_bind, hzr, Result.andThen_ok, run_underlying hu, run_sizeOf hsz, Array.toList_map]
      have h3 : Instr.fill (fun i => some (i * s, s)) zx.cells (List.map (fun p => (p.1, a.eval p.2)) parts.toList) = some ⟨l'⟩ := h2
      rw [h3]
      rfl
  · cases hk
end
end Go.D
