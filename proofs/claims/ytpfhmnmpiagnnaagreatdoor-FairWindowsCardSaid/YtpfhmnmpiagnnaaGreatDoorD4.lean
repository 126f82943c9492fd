/- D, part 4: what leaves the heap as it is: each operation of 'stillD' is the model's. -/
import Derived.Test.YtpfhmnmpiagnnaaGreatDoorD3
namespace Go.D
open Go

section
variable {P : Program} {ρ : Nm} {w : World}

/-! ### Integers, floats, strings -/
theorem intOp_sound {op : BinOp} {k : IntKind} {a b : Int} {r : SV} (t : TypeId) (h : intOp op k a b = some r) (h1 : op ≠ .shl) (h2 : op ≠ .shr) :
    ∃ z, VR ρ r z ∧ (binOp op t (.int k a) (.int k b)).run P w = .ok z w := by
  cases op <;> simp only [intOp] at h <;> first
    | exact absurd rfl h1
    | exact absurd rfl h2
    | (cases h; exact ⟨_, rfl, by simp [binOp, Op.intArith, Op.intBits, Op.intCmp]⟩)
    | (split at h
       · cases h
       · rename_i hb; cases h; exact ⟨_, rfl, by simp [binOp, Op.intDiv, hb]⟩)
theorem shiftOp_sound {op : BinOp} {k k' : IntKind} {a b : Int} {r : SV} (t : TypeId) (h : shiftOp op k a b = some r) (ho : op = .shl ∨ op = .shr) :
    ∃ z, VR ρ r z ∧ (binOp op t (.int k a) (.int k' b)).run P w = .ok z w := by
  unfold shiftOp at h
  split at h
  · cases h
  · rename_i hb
    rcases ho with rfl | rfl <;> (simp only at h; cases h; exact ⟨_, rfl, by simp [binOp, Op.shift, hb]⟩)
theorem fltOp_sound {op : BinOp} {k : FloatKind} {a b : Nat} {r : SV} (t : TypeId) (h : fltOp op k a b = some r) :
    ∃ z, VR ρ r z ∧ (binOp op t (.float k a) (.float k b)).run P w = .ok z w := by
  cases op <;> simp only [fltOp] at h <;> first
    | (cases h; done)
    | (cases h; exact ⟨_, rfl, by simp [binOp, Op.floatCmp]⟩)
    | (simp only [Option.map_eq_some_iff] at h
       obtain ⟨c, hc, rfl⟩ := h
       exact ⟨_, rfl, by simp [binOp, Op.floatArith, hc]⟩)
theorem strOp_sound {op : BinOp} {a b : List UInt8} {r : SV} (t : TypeId) (h : strOp op a b = some r) :
    ∃ z, VR ρ r z ∧ (binOp op t (.string ⟨⟨a⟩⟩) (.string ⟨⟨b⟩⟩)).run P w = .ok z w := by
  have ha : (ByteArray.mk ⟨a⟩).toList = a := ByteArray.toList_mk a
  have hb : (ByteArray.mk ⟨b⟩).toList = b := ByteArray.toList_mk b
  cases op <;> simp only [strOp] at h <;> try (cases h; done)
  case add =>
    split at h
    · rename_i hl
      cases h
      refine ⟨_, rfl, ?_⟩
      have : ¬ (((ByteArray.mk ⟨a⟩).size + (ByteArray.mk ⟨b⟩).size : Nat) : Int) > IntKind.i64.max := by
        simp only [ByteArray.size, List.size_toArray]
        show ¬ ((a.length + b.length : Nat) : Int) > 9223372036854775807
        omega
      simp only [binOp, Op.stringOp]
      rw [if_neg this]
      simp only [Sem.run_pure]
      congr 2
    · cases h
  all_goals (cases h; exact ⟨_, rfl, by simp [binOp, Op.stringOp, ha, hb]⟩)

/-! ### Parts -/
theorem partT_sound {t : TypeId} {cs : List SV} {l : List Value} (hl : VRs ρ cs l) {off : Nat} {v : SV} (h : partT P t cs off = some v) :
    ∃ x, VR ρ v x ∧ (part t ⟨l⟩ off).run P w = .ok x w := by
  unfold partT at h
  cases ha : tagg P t with
  | none => rw [ha] at h; cases h
  | some b =>
    rw [ha] at h
    cases b with
    | true =>
      simp only at h
      cases hz : tsize P t with
      | none => rw [hz] at h; cases h
      | some n =>
        rw [hz] at h
        simp only at h
        cases hq : seg cs off n with
        | none => rw [hq] at h; cases h
        | some us =>
          rw [hq] at h; cases h
          obtain ⟨h1, h2, h3⟩ := VRs_seg hl hq
          refine ⟨.agg ⟨(l.drop off).take n⟩, by simp only [VR]; exact ⟨_, h1, rfl⟩, ?_⟩
          simp only [part, Sem.run_bind, run_isAgg ha, Result.andThen_ok, if_true, run_sizeOf hz, Sem.run_pure]
          congr 2
          show (l.toArray.extract off (off + n)) = _
          rw [List.extract_toArray, List.extract_eq_take_drop]
          simp
    | false =>
      simp only at h
      obtain ⟨x, hx, hx'⟩ := VRs_get hl h
      refine ⟨x, hx', ?_⟩
      have : (⟨l⟩ : Array Value)[off]? = some x := by simpa using hx
      simp [part, run_isAgg ha, this]

/-! ### Equality -/
theorem eqFs_sound {d : Nat} (ih : ∀ (t : TypeId) (x y : SV) (b : Bool) (u v : Value), eqT P d t x y = some b → VR ρ x u → VR ρ y v → (Op.equalIn d t u v).run P w = .ok b w)
    {xs ys : List SV} {us vs : List Value} (hu : VRs ρ xs us) (hv : VRs ρ ys vs) : ∀ (fs : List Field) (b : Bool), eqFs P (eqT P d) xs ys fs = some b →
    (Op.eqFields d ⟨us⟩ ⟨vs⟩ fs).run P w = .ok b w
  | [], b, h => by simp only [eqFs, Option.some.injEq] at h; subst h; simp [Op.eqFields]
  | f :: fs, b, h => by
    simp only [eqFs] at h
    split at h
    · cases h
    · rename_i hn
      split at h
      · rename_i p q hp hq
        obtain ⟨p', hp1, hp2⟩ := partT_sound (w := w) hu hp
        obtain ⟨q', hq1, hq2⟩ := partT_sound (w := w) hv hq
        simp only [Op.eqFields, if_pos hn, Sem.run_bind, hp2, hq2, Result.andThen_ok]
        cases he : eqT P d f.type p q with
        | none => rw [he] at h; cases h
        | some b0 =>
          rw [he] at h
          rw [ih _ _ _ _ _ _ he hp1 hq1]
          cases b0 with
          | true => simp only [Result.andThen_ok]; simpa using eqFs_sound ih hu hv fs b (by simpa using h)
          | false => simp only [Option.some.injEq] at h; subst h; simp
      · cases h
theorem eqArr_sound {d s : Nat} (ih : ∀ (t : TypeId) (x y : SV) (b : Bool) (u v : Value), eqT P d t x y = some b → VR ρ x u → VR ρ y v → (Op.equalIn d t u v).run P w = .ok b w)
    {el : TypeId} (hs : tsize P el = some s) {xs ys : List SV} {us vs : List Value} (hu : VRs ρ xs us) (hv : VRs ρ ys vs) : ∀ (n i : Nat) (b : Bool), eqArr P (eqT P d) el s xs ys n i = some b →
    ((forIn (List.range' i n) ((none, ()) : Option Bool × PUnit) (fun j _ => do
      if (!(← Op.equalIn d el (← part el ⟨us⟩ (j * s)) (← part el ⟨vs⟩ (j * s)))) = true then pure (ForInStep.done (some false, ())) else pure (ForInStep.yield (none, ())))) : Sem (Option Bool × PUnit)).run P w
      = .ok (if b then none else some false, ()) w
  | 0, i, b, h => by simp only [eqArr, Option.some.injEq] at h; subst h; simp
  | n + 1, i, b, h => by
    simp only [eqArr] at h
    split at h
    · rename_i p q hp hq
      obtain ⟨p', hp1, hp2⟩ := partT_sound (w := w) hu hp
      obtain ⟨q', hq1, hq2⟩ := partT_sound (w := w) hv hq
      rw [List.range'_succ, List.forIn_cons]
      simp only [Sem.run_bind, hp2, hq2, Result.andThen_ok]
      cases he : eqT P d el p q with
      | none => rw [he] at h; cases h
      | some b0 =>
        rw [he] at h
        rw [ih _ _ _ _ _ _ he hp1 hq1]
        cases b0 with
        | true =>
          simp only [Result.andThen_ok, Bool.not_true, Bool.false_eq_true, if_false, Sem.run_pure]
          exact eqArr_sound ih hs hu hv n (i + 1) b (by simpa using h)
        | false => simp only [Option.some.injEq] at h; subst h; simp
    · cases h

theorem inv_agg {v : SV} {c : Array Value} (h : VR ρ v (.agg c)) : ∃ cs l, v = .agg cs ∧ VRs ρ cs l ∧ c = ⟨l⟩ := by
  cases v <;> simp only [VR] at h <;> first
    | (cases h; done)
    | (obtain ⟨_, _, e⟩ := h; cases e; exact ⟨_, _, rfl, by assumption, rfl⟩)
    | (obtain ⟨_, _, e⟩ := h; cases e; done)
    | (obtain ⟨_, _, _, e, _⟩ := h; cases e; done)
    | (obtain ⟨_, _, _, _, e⟩ := h; cases e; done)
theorem VR_agg {cs : List SV} {x : Value} (h : VR ρ (.agg cs) x) : ∃ l, VRs ρ cs l ∧ x = .agg ⟨l⟩ := by simpa only [VR] using h
theorem VR_tup {cs : List SV} {x : Value} (h : VR ρ (.tup cs) x) : ∃ l, VRs ρ cs l ∧ x = .tuple ⟨l⟩ := by simpa only [VR] using h
theorem VR_ptr {nm off : Nat} {x : Value} (h : VR ρ (.ptr nm off) x) : ∃ l, ρ nm = some l ∧ x = .pointer (some ⟨l.blk, l.base + off, none⟩) := by simpa only [VR] using h
theorem VR_slc {nm off len es : Nat} {cp : Option Nat} {x : Value} (h : VR ρ (.slc nm off len es cp) x) :
    ∃ l A, ρ nm = some l ∧ x = .slice (some A) len (capOf l off es cp) ∧ (A = ⟨l.blk, l.base + off, none⟩ ∨ (len = 0 ∧ capOf l off es cp = 0)) ∧ len ≤ capOf l off es cp := by simpa only [VR] using h
theorem VR_ifc {t : TypeId} {v : SV} {x : Value} (h : VR ρ (.ifc t v) x) : ∃ u, VR ρ v u ∧ x = .iface t u := by simpa only [VR] using h
theorem VR_fn {f : Fn} {a b : List SV} {x : Value} (h : VR ρ (.fn f a b) x) : ∃ p q, VRs ρ a p ∧ VRs ρ b q ∧ x = .func f ⟨p⟩ ⟨q⟩ := by simpa only [VR] using h

theorem eqT_sound : ∀ (d : Nat) (t : TypeId) (x y : SV) (b : Bool) (u v : Value), eqT P d t x y = some b → VR ρ x u → VR ρ y v → (Op.equalIn d t u v).run P w = .ok b w
  | 0, _, _, _, _, _, _, h, _, _ => by simp [eqT] at h
  | d + 1, t, x, y, b, u, v, h, hx, hy => by
    have ih := eqT_sound d
    unfold eqT at h
    split at h
    case h_1 => -- bools
      split at h
      · cases h; cases hx; cases hy; simp [Op.equalIn, run_underlying (by assumption : P.underlying t = _)]
      · cases h
    case h_2 =>
      split at h
      · split at h
        · cases h; cases hx; cases hy; rename_i e; subst e; simp [Op.equalIn, run_underlying (by assumption : P.underlying t = _)]
        · cases h
      · cases h
    case h_3 =>
      split at h
      · cases h; cases hx; cases hy
        rename_i hu
        rw [run_equalIn_string w d t _ _ hu, ByteArray.toList_mk, ByteArray.toList_mk]
      · cases h
    case h_4 =>
      split at h
      · cases h; cases hx; cases hy; simp [Op.equalIn, run_underlying (by assumption : P.underlying t = _)]
      · cases h
    case h_5 =>
      split at h
      · cases h; cases hx; obtain ⟨l, _, rfl⟩ := VR_ptr hy; simp [Op.equalIn, run_underlying (by assumption : P.underlying t = _)]
      · cases h
    case h_6 =>
      split at h
      · cases h; cases hy; obtain ⟨l, _, rfl⟩ := VR_ptr hx; simp [Op.equalIn, run_underlying (by assumption : P.underlying t = _)]
      · cases h
    case h_7 =>
      split at h
      · cases h; cases hx; cases hy; simp [Op.equalIn, run_underlying (by assumption : P.underlying t = _)]
      · cases h
    case h_8 =>
      split at h
      · cases h; cases hx; obtain ⟨l, A, _, rfl, _⟩ := VR_slc hy; simp [Op.equalIn, run_underlying (by assumption : P.underlying t = _)]
      · cases h
    case h_9 =>
      split at h
      · cases h; cases hy; obtain ⟨l, A, _, rfl, _⟩ := VR_slc hx; simp [Op.equalIn, run_underlying (by assumption : P.underlying t = _)]
      · cases h
    case h_10 =>
      split at h
      · cases h; cases hx; obtain ⟨l, _, rfl⟩ := VR_ifc hy; simp [Op.equalIn, run_underlying (by assumption : P.underlying t = _)]
      · cases h
    case h_11 =>
      split at h
      · cases h; cases hy; obtain ⟨l, _, rfl⟩ := VR_ifc hx; simp [Op.equalIn, run_underlying (by assumption : P.underlying t = _)]
      · cases h
    case h_12 =>
      obtain ⟨us, hu, rfl⟩ := VR_agg hx
      obtain ⟨vs, hv, rfl⟩ := VR_agg hy
      split at h
      · rename_i fs ht
        split at h
        · cases h
        · rename_i hst
          have ht' : P.underlying t = some (.struct (P.fieldsOf t)) := by simp [Program.fieldsOf, ht]
          rw [run_equalIn_struct w d t _ _ ht' (by simpa using hst)]
          have : P.fieldsOf t = fs := by simp [Program.fieldsOf, ht]
          rw [this]
          exact eqFs_sound ih hu hv _ _ h
      · rename_i n el ht
        split at h
        · rename_i s hs
          have key := eqArr_sound (w := w) ih hs hu hv n 0 b h
          simp only [Op.equalIn, Sem.run_bind, run_underlying ht, Result.andThen_ok, run_sizeOf hs]
          rw [Std.Legacy.Range.forIn_eq_forIn_range']
          simp only [Std.Legacy.Range.size, Nat.sub_zero, Nat.add_sub_cancel, Nat.div_one]
          rw [key]
          cases b <;> simp
        · cases h
      · cases h
    case h_13 => cases h
end
end Go.D
