/- D, part 20: functions without a body. -/
import Derived.Test.YtpfhmnmpiagnnaaGreatDoorD19
import Derived.Laws.Externs
namespace Go.D
open Go

inductive XK where
  | floor (way : Ieee.Toward)
  | bits
  | frombits
  | indexByte
def floorD (way : Ieee.Toward) (x : Nat) : Option SV :=
  match FloatKind.f64.decode x with
  | .nan _ _ => none
  | d => some (.flt .f64 (FloatKind.f64.encode (d.integral way)))
def xkD (k : XK) (args : List SV) : Option SV :=
  match k, args with
  | .floor way, [.flt .f64 x] => floorD way x
  | .bits, [.flt .f64 b] => some (.int .u64 b)
  | .frombits, [.int .u64 n] => some (.flt .f64 n.toNat)
  | .indexByte, [.str s, .int .u8 c] => some (.int .i64 (match (List.range (ByteArray.mk ⟨s⟩).size).find? fun i => (ByteArray.mk ⟨s⟩)[i]! == c.toNat.toUInt8 with | some i => i | none => -1))
  | _, _ => none
def xkFind : List (Nat × XK) → Nat → Option XK
  | [], _ => none
  | (g, k) :: l, f => if g = f then some k else xkFind l f
def XE (l : List (Nat × XK)) : Lo → CallF := fun _ f args h =>
  match xkFind l f with
  | some k => match xkD k args with | some v => some (v, h) | none => none
  | none => none
/-- What is asked of a function that is told apart. -/
def XK.ok (k : XK) (P : Program) (f : Nat) : Prop :=
  ∃ fn e, P.funcs[f]? = some fn ∧ (fn.name == "runtime.NumGoroutine") = false ∧ fn.body.isNone = true ∧ Extern.findNext fn = none ∧ Extern.find fn = some e ∧
    (match k with
     | .floor way => ∃ name, e = Extern.MathFloor.toIntegral name way
     | .bits => e = Extern.MathFloatBits.float64bits
     | .frombits => e = Extern.MathFloatBits.float64frombits
     | .indexByte => e = Extern.BytealgIndexByte.indexByte)
theorem VR_flt {ρ : Nm} {k : FloatKind} {b : Nat} {x : Value} (h : VR ρ (.flt k b) x) : x = .float k b := by simpa only [VR] using h
theorem xk_run {ρ : Nm} {P : Program} {w : World} {k : XK} {args : List SV} {v : SV} (hd : xkD k args = some v) {xs : List Value} (hx : VRs ρ args xs) {f : Nat} (hk : k.ok P f) :
    ∃ x, VR ρ v x ∧ (callFunc f ⟨xs⟩).run P w = .ok (.value x) w := by
  obtain ⟨fn, e, h1, h2, h3, h4, h5, h6⟩ := hk
  rw [run_callFunc_extern h1 h2 h3 h4 h5]
  unfold xkD at hd
  split at hd
  · rename_i way b
    obtain ⟨y, ys, rfl, g1, g2⟩ := VRs_cons hx
    rw [VRs_nil g2, VR_flt g1]
    simp only at h6
    obtain ⟨name, rfl⟩ := h6
    unfold floorD at hd
    split at hd
    · cases hd
    · rename_i d hnan
      cases hd
      refine ⟨.float .f64 (FloatKind.f64.encode ((FloatKind.f64.decode b).integral way)), by simp only [VR], ?_⟩
      have he : Extern.MathFloor.toIntegral name way #[.float .f64 b] = pure (.float .f64 (FloatKind.f64.encode ((FloatKind.f64.decode b).integral way))) := by
        show @Extern.MathFloor.toIntegral.match_1 (fun _ => Sem Value) (FloatKind.f64.decode b) _ _ = _
        generalize FloatKind.f64.decode b = d at hnan ⊢
        cases d with
        | nan s t => exact absurd rfl (hnan s t)
        | _ => rfl
      show ((Extern.MathFloor.toIntegral name way #[.float .f64 b]).run P w).andThen _ = _
      rw [he]
      rfl
  · rename_i b
    obtain ⟨y, ys, rfl, g1, g2⟩ := VRs_cons hx
    rw [VRs_nil g2, VR_flt g1]
    simp only at h6
    subst h6
    cases hd
    exact ⟨.int .u64 b, by simp only [VR], rfl⟩
  · rename_i n
    obtain ⟨y, ys, rfl, g1, g2⟩ := VRs_cons hx
    have g1 : y = .int .u64 n := by simpa only [VR] using g1
    rw [VRs_nil g2, g1]
    simp only at h6
    subst h6
    cases hd
    exact ⟨.float .f64 n.toNat, by simp only [VR], rfl⟩
  · rename_i s c
    obtain ⟨y, ys, rfl, g1, g2⟩ := VRs_cons hx
    obtain ⟨z, zs, rfl, g3, g4⟩ := VRs_cons g2
    have g1 : y = .string ⟨⟨s⟩⟩ := by simpa only [VR] using g1
    have g3 : z = .int .u8 c := by simpa only [VR] using g3
    rw [VRs_nil g4, g1, g3]
    simp only at h6
    subst h6
    cases hd
    refine ⟨_, by simp only [VR]; rfl, ?_⟩
    rw [run_indexByte_string]
    rfl
  · cases hd
theorem XE_good {P : Program} {l : List (Nat × XK)} (hl : ∀ f k, xkFind l f = some k → k.ok P f) : XGood P (XE l) := by
  intro Y lo _ f args h v h' hd Fc n ρ F w xs hw hy hs hx
  unfold XE at hd
  split at hd
  · rename_i k hk
    split at hd
    · rename_i v2 hv
      cases hd
      obtain ⟨x, h1, h2⟩ := xk_run (P := P) (w := w) hv hx (hl f k hk)
      exact .inl ⟨x, w, h2, ρ, Ext.refl _ _, h1, hs, Same.refl _, Nat.le_refl _⟩
    · cases hd
  · cases hd

/-- THE EVALUATOR OF A PROGRAM's CALLS. -/
theorem run_sound {P : Program} (hm : P.follows .mixedOrders = true) (hN : ∀ (f : Nat) (fn : Func), P.funcs[f]? = some fn → fn.name ≠ "runtime.NumGoroutine") {l : List (Nat × XK)} (hl : ∀ f k, xkFind l f = some k → k.ok P f) (L n : Nat) :
    GoodLo P [] (loD P (XE l) (anyF P) L n []) :=
  lo_sound (XE_good hl) (fun _ _ hg => any_good hm hg) hN n []
end Go.D
