import Derived.Test.YtpfhmnmpiagnnaaGreatDoorFB
open Go Go.D Go.Proofs
def xs0 : List (Nat × XK) := [(298, .indexByte), (135, .floor .down), (275, .floor .zero), (100, .bits), (137, .frombits)]
noncomputable def lo0 : Lo := loD Tryz.prog (XE xs0) (anyF Tryz.prog) 1000000 1000 []
def quiet : Option (SV × Heap) → Bool
  | some (.bool true, ⟨.tip, 0⟩) => true
  | _ => false
theorem of_quiet {r : Option (SV × Heap)} (h : quiet r = true) : r = some (.bool true, ⟨.tip, 0⟩) := by
  unfold quiet at h
  split at h
  · rfl
  · cases h
def fwChain (lo : Lo) : Bool :=
  match lo.call 26 [] ⟨.tip, 0⟩ with
  | some (w1, h3) => match lo.call 27 [] h3 with
    | some (w2, h4) => match lo.call 25 [w1, w2] h4 with
      | some (.int .i64 n, h5) => if n = 1 then match lo.call 26 [] h5 with
        | some (w3, h6) => match lo.call 29 [w3, .int .i64 18] h6 with
          | some (.bool true, _) => true
          | _ => false
        | none => false else false
      | _ => false
    | none => false
  | none => false
theorem fwChain_ok : fwChain lo0 = true := by kernel_rfl
theorem fwChain_out {lo : Lo} (h : fwChain lo = true) : ∃ w1 h3 w2 h4 h5 w3 h6 h7, lo.call 26 [] ⟨.tip, 0⟩ = some (w1, h3) ∧ lo.call 27 [] h3 = some (w2, h4) ∧ lo.call 25 [w1, w2] h4 = some (.int .i64 1, h5) ∧ lo.call 26 [] h5 = some (w3, h6) ∧ lo.call 29 [w3, .int .i64 18] h6 = some (.bool true, h7) := by
  unfold fwChain at h
  split at h
  case h_2 => cases h
  rename_i w1 h3 e1
  split at h
  case h_2 => cases h
  rename_i w2 h4 e2
  split at h
  case h_2 => cases h
  rename_i n h5 e3
  split at h
  case isFalse => cases h
  rename_i hn
  subst hn
  split at h
  case h_2 => cases h
  rename_i w3 h6 e4
  split at h
  case h_2 => cases h
  rename_i h7 e5
  exact ⟨_, _, _, _, _, _, _, _, e1, e2, e3, e4, e5⟩
/-- A call of a function with a body, whose arguments hold no name. -/
theorem call_pure {P : Program} {l : List (Nat × XK)} {any : AnyF} {L n : Nat} {f : FuncId} {args : List SV} {h h' : Heap} {v : SV} (hx : xkFind l f = none) (hp : SV.pures args = true) (hv : v.pure = true)
    (hb : bodyD P any L (loD P (XE l) any L n []) f args ⟨.tip, h.next⟩ = some (v, h')) : (loD P (XE l) any L (n + 1) []).call f args h = some (v, h) := by
  simp only [loD, XE, hx, hp, if_true, arenaD, hb, hv]
theorem c24 (n : Int) (h : Heap) : lo0.call 24 [.int .i64 n] h = some (.int .i64 (bnd n), h) := call_pure (n := 999) rfl rfl rfl bound24
theorem c28 (n : Int) (h : Heap) : lo0.call 28 [.int .i64 n] h = some (.int .i64 (bnd n), h) := call_pure (n := 999) rfl rfl rfl bound28
