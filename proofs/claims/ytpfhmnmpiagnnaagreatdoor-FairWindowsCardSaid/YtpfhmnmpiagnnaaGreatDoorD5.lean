/- D, part 5: each operation of 'stillD' is the model's. -/
import Derived.Test.YtpfhmnmpiagnnaaGreatDoorD4
namespace Go.D
open Go

section
variable {P : Program} {ρ : Nm} {w : World}

def notNum : Value → Bool
  | .int .. | .float .. | .complex .. | .string .. => false
  | _ => true
theorem binOp_eql_of {x : Value} (hx : notNum x = true) (t : TypeId) (y : Value) :
    binOp .eql t x y = (do pure (.bool (← Op.equal t x y))) := by
  cases x <;> first | (simp [notNum] at hx; done) | rfl
theorem binOp_neq_of {x : Value} (hx : notNum x = true) (t : TypeId) (y : Value) :
    binOp .neq t x y = (do pure (.bool (!(← Op.equal t x y)))) := by
  cases x <;> first | (simp [notNum] at hx; done) | rfl
theorem eqGuard_of (op : BinOp) (t : TypeId) (ox oy : Operand) (x y : Value) (h1 : ∀ c c', x = .agg c → y = .agg c' → P.eqGuardType P.depth t = false) (h2 : ¬ (x = .nilIface ∧ y = .nilIface)) :
    (eqGuard op t ox oy x y).run P w = .ok () w := by
  by_cases ha : ∃ c c', x = .agg c ∧ y = .agg c'
  · obtain ⟨c, c', rfl, rfl⟩ := ha
    exact run_eqGuard_agg w op t ox oy c c' (h1 c c' rfl rfl)
  · have : ∀ c c', ¬ (x = .agg c ∧ y = .agg c') := fun c c' h => ha ⟨c, c', h⟩
    cases op <;> cases x <;> cases y <;> first
      | rfl
      | (exact absurd ⟨rfl, rfl⟩ h2)
      | (exact absurd ⟨rfl, rfl⟩ (this _ _))
theorem eqT_shape {d : Nat} {t : TypeId} {a b : SV} {r : Bool} (h : eqT P d t a b = some r) :
    (∃ p q, a = .bool p ∧ b = .bool q) ∨ (∃ k n k' n', a = .int k n ∧ b = .int k' n') ∨ (∃ p q, a = .str p ∧ b = .str q) ∨ (∃ p q, a = .agg p ∧ b = .agg q) ∨
    (a = .nilp ∨ a = .nils ∨ (∃ p q, a = .ptr p q) ∨ (∃ n o l e c, a = .slc n o l e c) ∨ (∃ t v, a = .ifc t v) ∨ (a = .nili ∧ ∃ t v, b = .ifc t v)) := by
  cases d with
  | zero => simp [eqT] at h
  | succ d =>
    unfold eqT at h
    split at h <;> simp_all
theorem eqTop_sound {op : BinOp} {t : TypeId} {a b : SV} {x y : Value} {r : Bool} (h : eqTop P t a b = some r) (hx : VR ρ a x) (hy : VR ρ b y)
    (hn : ∀ k n k' n', ¬ (a = .int k n ∧ b = .int k' n')) (hs : ∀ p q, ¬ (a = .str p ∧ b = .str q)) (ox oy : Operand) :
    (eqGuard op t ox oy x y).run P w = .ok () w ∧ (Op.equal t x y).run P w = .ok r w ∧ notNum x = true := by
  have key : eqT P Op.maxDepth t a b = some r ∧ (∀ c c', x = .agg c → y = .agg c' → P.eqGuardType P.depth t = false) := by
    unfold eqTop at h
    split at h
    · split at h
      · cases h
      · rename_i hg; exact ⟨h, fun _ _ _ _ => by simpa using hg⟩
    · rename_i hne
      refine ⟨h, fun c c' e e' => ?_⟩
      subst e; subst e'
      obtain ⟨cs, l, rfl, _, _⟩ := inv_agg hx
      obtain ⟨cs', l', rfl, _, _⟩ := inv_agg hy
      exact absurd rfl (hne cs cs' rfl)
  have hsh := eqT_shape key.1
  refine ⟨eqGuard_of op t ox oy x y key.2 ?_, eqT_sound _ _ _ _ _ _ _ key.1 hx hy, ?_⟩
  · rintro ⟨rfl, rfl⟩
    rcases hsh with ⟨p, q, rfl, rfl⟩ | ⟨k, n, k', n', rfl, rfl⟩ | ⟨p, q, rfl, rfl⟩ | ⟨p, q, rfl, rfl⟩ | rfl | rfl | ⟨p, q, rfl⟩ | ⟨_, _, _, _, _, rfl⟩ | ⟨_, _, rfl⟩ | ⟨rfl, ⟨_, _, rfl⟩⟩
    · cases hx
    · cases hx
    · cases hx
    · obtain ⟨_, _, e⟩ := VR_agg hx; cases e
    · cases hx
    · cases hx
    · obtain ⟨_, _, e⟩ := VR_ptr hx; cases e
    · obtain ⟨_, _, _, e, _⟩ := VR_slc hx; cases e
    · obtain ⟨_, _, e⟩ := VR_ifc hx; cases e
    · obtain ⟨_, _, e⟩ := VR_ifc hy; cases e
  · rcases hsh with ⟨p, q, rfl, rfl⟩ | ⟨k, n, k', n', rfl, rfl⟩ | ⟨p, q, rfl, rfl⟩ | ⟨p, q, rfl, rfl⟩ | rfl | rfl | ⟨p, q, rfl⟩ | ⟨_, _, _, _, _, rfl⟩ | ⟨_, _, rfl⟩ | ⟨rfl, _⟩
    · cases hx; rfl
    · exact absurd ⟨rfl, rfl⟩ (hn _ _ _ _)
    · exact absurd ⟨rfl, rfl⟩ (hs _ _)
    · obtain ⟨_, _, rfl⟩ := VR_agg hx; rfl
    · cases hx; rfl
    · cases hx; rfl
    · obtain ⟨_, _, rfl⟩ := VR_ptr hx; rfl
    · obtain ⟨_, _, _, rfl, _⟩ := VR_slc hx; rfl
    · obtain ⟨_, _, rfl⟩ := VR_ifc hx; rfl
    · cases hx; rfl
theorem eqGuard_num (op : BinOp) (t : TypeId) (ox oy : Operand) {x y : Value} (h : ∀ c, x ≠ .agg c) (h2 : x ≠ .nilIface) : (eqGuard op t ox oy x y).run P w = .ok () w :=
  eqGuard_of op t ox oy x y (fun c _ e _ => absurd e (h c)) (fun e => h2 e.1)
theorem binD_sound {op : BinOp} {t : TypeId} {a b : SV} {x y : Value} {r : SV} (h : binD P op t a b = some r) (hx : VR ρ a x) (hy : VR ρ b y) (ox oy : Operand) :
    ∃ z, VR ρ r z ∧ (do eqGuard op t ox oy x y; binOp op t x y : Sem Value).run P w = .ok z w := by
  unfold binD at h
  split at h
  · cases hx; cases hy
    split at h
    · obtain ⟨z, h1, h2⟩ := shiftOp_sound (ρ := ρ) (P := P) (w := w) t h (.inl rfl)
      exact ⟨z, h1, by rw [Sem.run_bind, eqGuard_num _ _ _ _ (fun c => by simp) (by simp), Result.andThen_ok, h2]⟩
    · obtain ⟨z, h1, h2⟩ := shiftOp_sound (ρ := ρ) (P := P) (w := w) t h (.inr rfl)
      exact ⟨z, h1, by rw [Sem.run_bind, eqGuard_num _ _ _ _ (fun c => by simp) (by simp), Result.andThen_ok, h2]⟩
    · rename_i n1 n2
      split at h
      · rename_i e; subst e
        obtain ⟨z, h1, h2⟩ := intOp_sound (ρ := ρ) (P := P) (w := w) t h (fun e => n1 e) (fun e => n2 e)
        exact ⟨z, h1, by rw [Sem.run_bind, eqGuard_num _ _ _ _ (fun c => by simp) (by simp), Result.andThen_ok, h2]⟩
      · cases h
  · cases hx; cases hy
    split at h
    · rename_i e; subst e
      obtain ⟨z, h1, h2⟩ := fltOp_sound (ρ := ρ) (P := P) (w := w) t h
      exact ⟨z, h1, by rw [Sem.run_bind, eqGuard_num _ _ _ _ (fun c => by simp) (by simp), Result.andThen_ok, h2]⟩
    · cases h
  · cases hx; cases hy
    obtain ⟨z, h1, h2⟩ := strOp_sound (ρ := ρ) (P := P) (w := w) t h
    exact ⟨z, h1, by rw [Sem.run_bind, eqGuard_num _ _ _ _ (fun c => by simp) (by simp), Result.andThen_ok, h2]⟩
  · rename_i m1 m2 m3
    have hn : ∀ k n k' n', ¬ (a = .int k n ∧ b = .int k' n') := fun k n k' n' ⟨e, e'⟩ => m1 _ _ _ _ e e'
    have hss : ∀ p q, ¬ (a = .str p ∧ b = .str q) := fun p q ⟨e, e'⟩ => m3 _ _ e e'
    split at h
    · split at h
      · rename_i bb he
        cases h
        obtain ⟨h1, h2, h3⟩ := eqTop_sound (op := .eql) (w := w) he hx hy hn hss ox oy
        refine ⟨_, rfl, ?_⟩
        rw [Sem.run_bind, h1, Result.andThen_ok, binOp_eql_of h3, Sem.run_bind, h2]
        rfl
      · cases h
    · split at h
      · rename_i bb he
        cases h
        obtain ⟨h1, h2, h3⟩ := eqTop_sound (op := .neq) (w := w) he hx hy hn hss ox oy
        refine ⟨_, rfl, ?_⟩
        rw [Sem.run_bind, h1, Result.andThen_ok, binOp_neq_of h3, Sem.run_bind, h2]
        rfl
      · cases h
    · cases h
theorem unD_sound {op : UnOp} {a : SV} {x : Value} {r : SV} (h : unD op a = some r) (hx : VR ρ a x) : ∃ z, VR ρ r z ∧ (Op.unary op x).run P w = .ok z w := by
  unfold unD at h
  split at h
  · cases hx; simp only [intOp, Option.some.injEq] at h; subst h; exact ⟨_, rfl, by simp [Op.unary, Op.intArith]⟩
  · cases hx; simp only [intOp, Option.some.injEq] at h; subst h; exact ⟨_, rfl, by simp [Op.unary, Op.intBits]⟩
  · cases hx; cases h; exact ⟨_, rfl, by simp [Op.unary]⟩
  · cases hx; cases h; exact ⟨_, rfl, by simp [Op.unary]⟩
  · cases h
theorem minD_sound {b : Bool} {u v r : SV} {x y : Value} (h : minD b u v = some r) (hx : VR ρ u x) (hy : VR ρ v y) :
    ∃ z, VR ρ r z ∧ ((if b then Builtin.max2 else Builtin.min2) x y).run P w = .ok z w := by
  unfold minD at h
  split at h
  · split at h
    · rename_i e; subst e
      cases hx; cases hy; cases h
      refine ⟨_, rfl, ?_⟩
      cases b <;> simp [Builtin.min2, Builtin.max2]
    · cases h
  · cases h
theorem foldMin_sound {b : Bool} : ∀ (vs : List SV) (v r : SV) (x : Value) (xs : List Value), foldMin b v vs = some r → VR ρ v x → VRs ρ vs xs →
    ∃ z, VR ρ r z ∧ (xs.foldlM (if b then Builtin.max2 else Builtin.min2) x).run P w = .ok z w
  | [], v, r, x, xs, h, hx, hxs => by
    simp only [foldMin, Option.some.injEq] at h; subst h
    rw [VRs_nil hxs]; exact ⟨x, hx, by simp⟩
  | u :: vs, v, r, x, xs, h, hx, hxs => by
    obtain ⟨y, ys, rfl, hy, hys⟩ := VRs_cons hxs
    simp only [foldMin] at h
    split at h
    · rename_i m hm
      obtain ⟨z, hz, hz'⟩ := minD_sound (P := P) (w := w) hm hx hy
      obtain ⟨z', h1, h2⟩ := foldMin_sound vs m r z ys h hz hys
      exact ⟨z', h1, by simp only [List.foldlM_cons, Sem.run_bind, hz', Result.andThen_ok, h2]⟩
    · cases h

/-! ### Conversions -/
theorem asBytes_sound : ∀ (cs : List SV) (s : List UInt8) (xs : List Value), asBytes cs = some s → VRs ρ cs xs →
    ∃ ns : List Int, xs = ns.map (Value.int .u8) ∧ s = ns.map (fun n => UInt8.ofNat n.toNat)
  | [], s, xs, h, hx => by
    simp only [asBytes, Option.some.injEq] at h; subst h
    rw [VRs_nil hx]; exact ⟨[], rfl, rfl⟩
  | v :: cs, s, xs, h, hx => by
    obtain ⟨x, ys, rfl, hx1, hx2⟩ := VRs_cons hx
    unfold asBytes at h
    split at h
    · rename_i heq; cases heq
    · rename_i n vs heq
      cases heq
      cases hx1
      split at h
      · rename_i s' hs'
        cases h
        obtain ⟨ns, rfl, rfl⟩ := asBytes_sound cs s' ys hs' hx2
        exact ⟨n :: ns, rfl, rfl⟩
      · cases h
    · cases h
theorem run_forIn_bytes (f : Value → ByteArray → Sem (ForInStep ByteArray)) (hf : ∀ n s, f (.int .u8 n) s = pure (.yield (s.push (UInt8.ofNat n.toNat)))) :
    ∀ (ns : List Int) (acc : ByteArray), (forIn (ns.map (Value.int .u8)) acc f).run P w = .ok ⟨⟨acc.data.toList ++ ns.map (fun n => UInt8.ofNat n.toNat)⟩⟩ w
  | [], acc => by simp
  | n :: ns, acc => by
    simp only [List.map_cons, List.forIn_cons, hf, Sem.run_bind, Sem.run_pure, Result.andThen_ok]
    rw [run_forIn_bytes f hf ns]
    simp [ByteArray.push]
theorem run_bytesToString (a : Addr) (len cap : Nat) (ns : List Int) (hl : (loadCells a len).run P w = .ok ⟨ns.map (Value.int .u8)⟩ w) :
    (Conv.bytesToString (.slice (some a) len cap)).run P w = .ok (.string ⟨⟨ns.map (fun n => UInt8.ofNat n.toNat)⟩⟩) w := by
  simp only [Conv.bytesToString, Sem.run_bind, hl, Result.andThen_ok]
  rw [← Array.forIn_toList]
  rw [run_forIn_bytes _ (fun n s => rfl)]
  rfl
theorem telem_sound {t e : TypeId} (h : telem P t = some e) : P.underlying t = some (.slice e) := by
  unfold telem at h
  split at h
  · cases h; assumption
  · cases h
theorem tarr_sound {t e : TypeId} {n : Nat} (h : tarr P t = some (n, e)) : P.underlying t = some (.array n e) := by
  unfold tarr at h
  split at h
  · cases h; assumption
  · cases h
theorem isU8_sound {t : TypeId} (h : isU8 P t = true) : P.underlying t = some (.int .u8) := by
  unfold isU8 at h
  split at h
  · assumption
  · cases h
theorem convD_sound {h : Heap} {F : Fr} (hs : Sim ρ h F w) {src dst : TypeId} {v r : SV} {x : Value} (hc : convD P h src dst v = some r) (hx : VR ρ v x) (hu : ∃ d, P.underlying src = some d) :
    ∃ z, VR ρ r z ∧ (convert src dst x).run P w = .ok z w := by
  obtain ⟨d, hd⟩ := hu
  unfold convD at hc
  split at hc
  · cases hx
    split at hc
    · cases hc; exact ⟨_, rfl, by simp [convert, run_underlying hd, run_underlying (by assumption : P.underlying dst = _), Conv.intToInt]⟩
    · cases hc; exact ⟨_, rfl, by simp [convert, run_underlying hd, run_underlying (by assumption : P.underlying dst = _), Conv.intToFloat]⟩
    · cases hc
  · cases hx
    split at hc
    · split at hc
      · rename_i n hn
        split at hc
        · rename_i hk
          cases hc
          exact ⟨_, rfl, by simp [convert, run_underlying hd, run_underlying (by assumption : P.underlying dst = _), Conv.floatToInt, hn, hk]⟩
        · cases hc
      · cases hc
    · cases hc
  · cases hx
    split at hc
    · cases hc; exact ⟨_, rfl, by simp [convert, run_underlying hd, run_underlying (by assumption : P.underlying dst = _)]⟩
    · cases hc
  · rename_i nm off len es cp
    split at hc
    · rename_i e hdst he
      split at hc
      · rename_i hes
        obtain ⟨hes1, rfl⟩ := hes
        split at hc
        · rename_i cs hcs
          split at hc
          · rename_i s hsb
            cases hc
            obtain ⟨l, A, hl, rfl, hA, _⟩ := VR_slc hx
            obtain ⟨xs, h1, h2, h3⟩ := loadN_sound (P := P) hs hcs hl
            obtain ⟨ns, rfl, rfl⟩ := asBytes_sound cs _ xs hsb h1
            refine ⟨_, rfl, ?_⟩
            have hsrc := telem_sound he
            rw [hsrc] at hd; cases hd
            have hA' : (loadCells A len).run P w = .ok ⟨ns.map (Value.int .u8)⟩ w := by
              rcases hA with rfl | ⟨h0, _⟩
              · exact h3
              · subst h0
                have : ns = [] := by simpa using h2
                subst this
                simp [loadCells, loadCellsFrom]
            simp [convert, run_underlying hsrc, run_underlying hdst, run_underlying (isU8_sound hes1), run_bytesToString A len (capOf l off 1 cp) ns hA']
          · cases hc
        · cases hc
      · cases hc
    · cases hc
  · cases hc

/-! ### Bounds and slices -/
theorem boundD_sound {v : SV} {x : Value} {y i : Nat} (h : boundD v y = some i) (hx : VR ρ v x) (code : BoundsCode) (y' : Nat) (hy : y ≤ y') : (Instr.sliceBound x y' code).run P w = .ok i w := by
  unfold boundD at h
  split at h
  · split at h
    · rename_i hb
      cases h; cases hx
      rename_i _ n
      have : 0 ≤ n ∧ n ≤ (y' : Int) := ⟨hb.1, by omega⟩
      simp [Instr.sliceBound, asIntOf, this]
    · cases h
  · cases h
theorem boundO_none (e : Env) (y d : Nat) : boundO e none y d = some d := rfl
theorem boundO_sound {nt : Nat} {e : Env} {a : Act} (hr : Rel ρ nt e a) {o : Option Operand} {y y' d i : Nat} (h : boundO e o y d = some i) (hy : y ≤ y') (code : BoundsCode) :
    (match o.map a.eval with | some v => Instr.sliceBound v y' code | none => pure d : Sem Nat).run P w = .ok i w := by
  cases o with
  | none => simp only [boundO, Option.some.injEq] at h; subst h; rfl
  | some x =>
    simp only [boundO] at h
    split at h
    · rename_i v hv
      exact boundD_sound h (ev_sound hr hv) code y' hy
    · cases h
theorem boundsD_sound {nt : Nat} {e : Env} {a : Act} (hr : Rel ρ nt e a) {len cap cap' : Nat} {lo hi mx : Option Operand} {p q m : Nat} (h : boundsD e len cap lo hi mx = some (p, q, m)) (hc : cap ≤ cap') (isSlice : Bool) :
    (Instr.sliceBounds isSlice len cap' (lo.map a.eval) (hi.map a.eval) (mx.map a.eval)).run P w = .ok (p, q, if mx.isSome then m else cap') w := by
  unfold boundsD at h
  cases mx with
  | none =>
    simp only [boundO_none] at h
    cases hi with
    | none =>
      simp only [boundO_none] at h
      cases lo with
      | none =>
        simp only [boundO_none] at h
        cases h
        simp [Instr.sliceBounds]
      | some xl =>
        cases hb : boundO e (some xl) len 0 with
        | none => rw [hb] at h; cases h
        | some a' =>
          rw [hb] at h; cases h
          have := boundO_sound (P := P) (w := w) hr hb (Nat.le_refl _) .sliceB
          simp only [Option.map_some] at this
          simp [Instr.sliceBounds, this]
    | some xh =>
      cases hb : boundO e (some xh) cap len with
      | none => simp only [hb] at h; cases h
      | some b' =>
        simp only [hb] at h
        have h1 := fun code => boundO_sound (P := P) (w := w) hr hb hc code
        simp only [Option.map_some] at h1
        cases lo with
        | none =>
          simp only [boundO_none] at h
          cases h
          simp [Instr.sliceBounds, h1]
        | some xl =>
          cases hb2 : boundO e (some xl) b' 0 with
          | none => rw [hb2] at h; cases h
          | some a' =>
            rw [hb2] at h; cases h
            have h2 := boundO_sound (P := P) (w := w) hr hb2 (Nat.le_refl _) .sliceB
            simp only [Option.map_some] at h2
            simp [Instr.sliceBounds, h1, h2]
  | some xm =>
    cases hb0 : boundO e (some xm) cap cap with
    | none => rw [hb0] at h; cases h
    | some m' =>
      rw [hb0] at h
      simp only at h
      have h0 := fun code => boundO_sound (P := P) (w := w) hr hb0 hc code
      simp only [Option.map_some] at h0
      cases hi with
      | none => cases h
      | some xh =>
        cases hb : boundO e (some xh) m' len with
        | none => simp only [hb] at h; cases h
        | some b' =>
          simp only [hb] at h
          have h1 := fun code => boundO_sound (P := P) (w := w) hr hb (Nat.le_refl _) code
          simp only [Option.map_some] at h1
          cases lo with
          | none =>
            simp only [boundO_none] at h
            cases h
            simp [Instr.sliceBounds, h0, h1]
          | some xl =>
            cases hb2 : boundO e (some xl) b' 0 with
            | none => rw [hb2] at h; cases h
            | some a' =>
              rw [hb2] at h; cases h
              have h2 := boundO_sound (P := P) (w := w) hr hb2 (Nat.le_refl _) .slice3C
              simp only [Option.map_some] at h2
              simp [Instr.sliceBounds, h0, h1, h2]
end
end Go.D
