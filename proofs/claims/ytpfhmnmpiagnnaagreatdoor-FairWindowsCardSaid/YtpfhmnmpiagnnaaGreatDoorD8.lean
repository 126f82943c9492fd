/- D, part 8: new rows. -/
import Derived.Test.YtpfhmnmpiagnnaaGreatDoorD7
import Derived.IntWalk
namespace Go.D
open Go

section
variable {P : Program} {ρ : Nm} {w : World}

theorem Sim.heap_eq {h : Heap} {F : Fr} {w w' : World} (hs : Sim ρ h F w) (e : w'.heap = w.heap) : Sim ρ h F w' := by
  refine ⟨fun nm cs hg => ?_, hs.inj, fun b o hb => by rw [e]; exact hs.frame b o hb, hs.fresh⟩
  obtain ⟨l, hl, ⟨c, el, fz, hc, hx⟩, hF⟩ := hs.row nm cs hg
  exact ⟨l, hl, ⟨c, el, fz, by rw [e]; exact hc, hx⟩, hF⟩
theorem zeros_length (z : List SV) : ∀ n, (zeros z n).length = n * z.length
  | 0 => by simp [zeros]
  | n + 1 => by simp [zeros, zeros_length z n, Nat.add_mul, Nat.add_comm]
theorem zeros_get (z : List SV) : ∀ (n i : Nat), i < n * z.length → (zeros z n)[i]? = z[i % z.length]?
  | 0, i, h => by simp at h
  | n + 1, i, h => by
    simp only [zeros]
    by_cases hi : i < z.length
    · rw [List.getElem?_append_left hi, Nat.mod_eq_of_lt hi]
    · rw [List.getElem?_append_right (by omega), zeros_get z n (i - z.length) (by rw [Nat.add_mul] at h; omega)]
      have hz : z.length ≤ i := by omega
      rw [Nat.mod_eq_sub_mod hz]
theorem VRs_zeros {z : List SV} {zx : Array Value} (hz : VRs ρ z zx.toList) {es : Nat} (he : z.length = es) (hpos : 0 < es) (n : Nat) :
    VRs ρ (zeros z n) ((Array.range (n * es)).map (fun i => zx[i % zx.size]!)).toList := by
  have hl := VRs_length hz
  simp only [Array.length_toList] at hl
  rw [VRs_iff]
  refine ⟨by simp [zeros_length, he], fun i v hv => ?_⟩
  have hi : i < n * es := by
    rcases Nat.lt_or_ge i (n * es) with h | h
    · exact h
    · rw [List.getElem?_eq_none (by rw [zeros_length, he]; exact h)] at hv; cases hv
  rw [zeros_get z n i (by rw [he]; exact hi), he] at hv
  obtain ⟨x, hx, hx'⟩ := VRs_get hz hv
  refine ⟨x, ?_, hx'⟩
  have hlt : i % es < zx.size := by rw [hl, he]; exact Nat.mod_lt _ hpos
  simp only [Array.toList_map, Array.toList_range, List.getElem?_map, List.getElem?_range hi, Option.map_some]
  rw [show zx.size = es by omega]
  congr 1
  rw [Array.getElem?_toList] at hx
  rw [getElem!_pos zx (i % es) hlt]
  rw [getElem?_pos zx (i % es) hlt] at hx
  exact Option.some.inj hx

/-- What a new row is behind the operation that makes it. -/
def Made (ρ : Nm) (w : World) (nm : Nat) (v : SV) (cs : List SV) (r : Result Next) : Prop :=
  ∃ x obj dr l, r = .ok (.value x) { w with heap := w.heap.push obj, drawn := dr } ∧ l.blk = w.heap.size ∧ VR (ρ.add nm l) v x ∧ RowAt (ρ.add nm l) l cs { w with heap := w.heap.push obj }

theorem made_row {nm : Nat} (hnm : ρ nm = none) {v : SV} {cs : List SV} {xs : List Value} (hx : VRs ρ cs xs) (el : TypeId) {x : Value} {r : Result Next}
    (hr : r = .ok (.value x) { w with heap := w.heap.push (.cells ⟨xs⟩ el) }) (hv : ∀ l : Loc, l.blk = w.heap.size → l.base = 0 → l.lim = xs.length → VR (ρ.add nm l) v x) : Made ρ w nm v cs r := by
  refine ⟨x, _, w.drawn, ⟨w.heap.size, 0, xs.length⟩, hr, rfl, hv _ rfl rfl rfl, ?_⟩
  refine RowAt.push (VRs_mono (Nm.le_add hnm) _ _ hx) (fun i x h => by simpa using h) (by rw [VRs_length hx]; exact Nat.le_refl _) (by simp) (fun i _ => by simp)
theorem new_sound {nt : Nat} {e : Env} {a : Act} (hr : Rel ρ nt e a) {nm : Nat} (hnm : ρ nm = none) {o : Oper} {v : SV} {cs : List SV} (hn : newD P e nm o.op = some (v, cs)) :
    Made ρ w nm v cs ((execOp a.eval o).run P w) := by
  obtain ⟨dst, op, type, pos, after, guard⟩ := o
  simp only at hn
  cases op <;> simp only [newD] at hn <;> try (cases hn; done)
  case alloc t =>
    split at hn
    · rename_i z hz
      cases hn
      obtain ⟨zx, hzx, hzr⟩ := run_zero (P := P) ρ hz w
      refine made_row hnm (VR_cells hzx) t (x := .pointer (some ⟨w.heap.size, 0, none⟩)) ?_ (fun l h1 h2 _ => ?_)
      · simp [execOp, Instr.alloc, hzr, newVar, newRow]
      · simp only [VR]; exact ⟨l, Nm.add_self _ _ _, by rw [h1, h2]⟩
    · cases hn
  case box t x =>
    split at hn
    · rename_i u hu
      cases hn
      refine made_row hnm (VR_cells (ev_sound hr hu)) t (x := .pointer (some ⟨w.heap.size, 0, none⟩)) ?_ (fun l h1 h2 _ => ?_)
      · simp [execOp, Instr.box, newVar, newRow]
      · simp only [VR]; exact ⟨l, Nm.add_self _ _ _, by rw [h1, h2]⟩
    · cases hn
  case buildSlice t len parts =>
    split at hn
    · rename_i el hel
      split at hn
      · rename_i es z ps hes hz hps
        split at hn
        · rename_i hc
          split at hn
          · rename_i cs' hcs
            cases hn
            obtain ⟨zx, hzx, hzr⟩ := run_zero (P := P) ρ hz w
            have hzc := VR_cells hzx
            have hp : ∀ i p, placeD P t i = some p → (fun i => some (i * es, es)) i = some p := fun i p h => by
              unfold placeD at h
              rw [telem_sound hel] at h
              simp only [hes] at h
              exact h
            obtain ⟨l', h1, h2⟩ := fill_sound hr hp parts.toList ps _ cs _ hps hcs (VRs_zeros hzc hc.2.1 hc.1 len)
            refine made_row hnm h1 el (x := .slice (some ⟨w.heap.size, 0, none⟩) len len) ?_ (fun l h3 h4 _ => ?_)
            · have hle : ¬ len * es > 2 ^ 24 := by omega
              have h2' : Instr.fill (fun i => some (i * es, es)) (Array.map (fun i => zx.cells[i % zx.cells.size]!) (Array.range (len * es))) (Array.map (fun x : Nat × Operand => (x.1, a.eval x.2)) parts).toList = some ⟨l'⟩ := by
                rw [Array.toList_map]; exact h2
              simp only [execOp, Instr.buildSlice, Sem.run_bind, run_underlying (telem_sound hel), Result.andThen_ok, run_sizeOf hes]
              rw [Sem.run_ite, if_neg hle]
              by_cases h0 : len * es = 0
              · rw [Sem.run_ite, if_pos h0]
                simp only [Sem.run_bind, Sem.run_pure, Result.andThen_ok]
                have : Array.range (len * es) = #[] := by rw [h0]; rfl
                rw [this] at h2' ⊢
                simp only [Array.map_empty] at h2' ⊢
                rw [h2']
                simp [newRow]
              · rw [Sem.run_ite, if_neg h0]
                simp only [Sem.run_bind, hzr, Sem.run_pure, Result.andThen_ok]
                rw [h2']
                simp [newRow]
            · simp only [VR, capOf]; exact ⟨l, _, Nm.add_self _ _ _, rfl, .inl (by rw [h3, h4]), Nat.le_refl _⟩
          · cases hn
        · cases hn
      · cases hn
    · cases hn
  case makeSlice t l c =>
    split at hn
    · rename_i k1 li k2 ci el hl hc0 hel
      split at hn
      · rename_i i z hi hz
        split at hn
        · rename_i hc
          cases hn
          obtain ⟨hpos, hzl, hl0, hlc, hcb, hby⟩ := hc
          obtain ⟨zx, hzx, hzr⟩ := run_zero (P := P) ρ hz w
          have hzc := VR_cells hzx
          have hle : a.eval l = .int k1 li := by have := ev_sound hr hl; simpa only [VR] using this
          have hce : a.eval c = .int k2 ci := by have := ev_sound hr hc0; simpa only [VR] using this
          have hwl : IntKind.i64.wrap li = li := IntWalk.i64_in _ ⟨by omega, by omega⟩
          have hwc : IntKind.i64.wrap ci = ci := IntWalk.i64_in _ ⟨by omega, by omega⟩
          have hbc : (i.bytes : Int) * ci ≤ 2 ^ 40 := by
            have h1 : (i.bytes : Int) ≤ 2 ^ 20 := by omega
            calc (i.bytes : Int) * ci ≤ 2 ^ 20 * 2 ^ 20 := Int.mul_le_mul h1 hcb (by omega) (by omega)
              _ = 2 ^ 40 := by decide
          have hn1 : ¬ (ci < 0) := by omega
          have hn2 : ¬ ((i.bytes : Int) * ci > 2 ^ 48) := by omega
          have hn3 : ¬ (li < 0) := by omega
          have hn4 : ¬ (li > ci) := by omega
          have hsz : tsize P el = some i.size := by simp [tsize, hi]
          refine made_row hnm (VRs_zeros hzc hzl hpos ci.toNat) el (x := .slice (some ⟨w.heap.size, 0, none⟩) li.toNat ci.toNat) ?_ (fun l h3 h4 _ => ?_)
          · simp only [execOp, Instr.makeSlice, Sem.run_bind, run_underlying (telem_sound hel), Result.andThen_ok, asInt, asIntOf, hle, hce, Sem.run_pure, typeInfo, run_program, hi, hwl, hwc]
            have hcond : (decide (ci < 0) || decide ((i.bytes : Int) * ci > 2 ^ 48) || decide (li < 0) || decide (li > ci)) = false := by
              simp only [decide_eq_false hn1, decide_eq_false hn2, decide_eq_false hn3, decide_eq_false hn4, Bool.or_false]
            rw [Sem.run_ite, if_neg (by rw [hcond]; simp)]
            simp only [Sem.run_bind, run_askRoom, Result.andThen_ok, run_sizeOf hsz]
            by_cases h0 : ci.toNat * i.size = 0
            · rw [Sem.run_ite, if_pos h0]
              simp only [Sem.run_bind, Sem.run_pure, Result.andThen_ok]
              have : Array.range (ci.toNat * i.size) = #[] := by rw [h0]; rfl
              simp [this, newRow]
            · rw [Sem.run_ite, if_neg h0]
              simp only [Sem.run_bind, hzr, Sem.run_pure, Result.andThen_ok, newRow, run_newObj, Array.toArray_toList]
          · simp only [VR, capOf]; exact ⟨l, _, Nm.add_self _ _ _, rfl, .inl (by rw [h3, h4]), by omega⟩
        · cases hn
      · cases hn
    · cases hn
  case convert s d x =>
    split at hn
    · rename_i b el hu hel
      split at hn
      · rename_i hc
        split at hn
        · rename_i hss
          cases hn
          have he : a.eval x = .string ⟨⟨b⟩⟩ := by have := ev_sound hr hu; simpa only [VR] using this
          have hq : (Question.appendCap b.length 0 el).forced = false := rfl
          generalize hcap : (Question.appendCap b.length 0 el).cut (w.tape w.drawn (Question.appendCap b.length 0 el)) = cap
          have hcap' : b.length ≤ cap := by rw [← hcap]; simp only [Question.cut]; omega
          have hsz : (ByteArray.mk ⟨b⟩).size = b.length := by simp [ByteArray.size]
          have hx : VRs (ρ.add nm ⟨w.heap.size, 0, cap⟩) (ofBytes b) (b.map fun x => Value.int .u8 x.toNat) := by
            rw [VRs_iff]
            refine ⟨by simp [ofBytes], fun i v hv => ?_⟩
            simp only [ofBytes, List.getElem?_map] at hv ⊢
            cases hb : b[i]? with
            | none => rw [hb] at hv; cases hv
            | some y => rw [hb] at hv; cases hv; exact ⟨_, rfl, rfl⟩
          refine ⟨.slice (some ⟨w.heap.size, 0, none⟩) b.length cap, .cells ((b.map fun x => Value.int .u8 x.toNat).toArray ++ Array.replicate (cap - b.length) (.int .u8 0)) el (cap, cap + 1), w.drawn + 1, ⟨w.heap.size, 0, cap⟩, ?_, rfl, ?_, ?_⟩
          · have hd := telem_sound hel
            have hu8 := isU8_sound hc.1
            simp only [execOp, convert, Sem.run_bind, run_underlying hss, run_underlying hd, Result.andThen_ok, he, run_underlying hu8, Conv.stringToBytes, run_choose, hsz, hq, Bool.false_eq_true, if_false, hcap]
            have harr : Array.map (fun b : UInt8 => Value.int IntKind.u8 b.toNat) ⟨b⟩ = (b.map fun x => Value.int .u8 x.toNat).toArray := by
              apply Array.ext'; simp
            rw [harr]
            generalize hC : (b.map fun x => Value.int .u8 x.toNat).toArray ++ Array.replicate (cap - b.length) (.int .u8 0) = C
            have hCs : C.size = cap := by rw [← hC]; simp; omega
            have hms : ∀ w0 : World, (markStringish ⟨w0.heap.size, 0, none⟩).run P { w0 with heap := w0.heap.push (.cells C el) } = .ok () { w0 with heap := w0.heap.push (.cells C el (cap, cap + 1)) } := fun w0 => by
              have h1 : World.shape? { w0 with heap := w0.heap.push (.cells C el) } w0.heap.size = some (el, C.size) := by simp [World.shape?]
              simp only [markStringish, Sem.run_bind, run_shape, h1, Result.andThen_ok, run_freeze, World.freeze]
              congr 1
              rw [if_neg (by decide)]
              congr 1
              apply Array.ext_getElem?
              intro j
              rw [Array.getElem?_modify, Array.getElem?_push, Array.getElem?_push]
              by_cases hj : w0.heap.size = j
              · subst hj; simp [hCs]
              · rw [if_neg hj]; simp [Ne.symm hj]
            have := hms { w with drawn := w.drawn + 1 }
            simp only at this
            simp only [newRow, Sem.run_bind, run_newObj, Result.andThen_ok, Sem.run_pure, this]
          · simp only [VR, capOf]
            exact ⟨_, _, Nm.add_self _ _ _, by simp, .inl rfl, by simpa using hcap'⟩
          · refine RowAt.push hx (fun i x h => ?_) (by simpa [ofBytes] using hcap') (by simp; omega) (fun i hi => by simp; omega)
            have hlt : i < b.length := by
              rcases Nat.lt_or_ge i b.length with h' | h'
              · exact h'
              · rw [List.getElem?_eq_none (by simpa using h')] at h; cases h
            rw [Array.getElem?_append_left (by simpa using hlt)]
            simpa using h
        · cases hn
      · cases hn
    · cases hn
end
end Go.D
