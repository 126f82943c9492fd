import Derived.Test.YtpfhmnmpiagnnaaGreatDoorFA
import Derived.Test.YtpfhmnmpiagnnaaGreatDoorFW
open Go Go.D Go.Proofs
theorem run5 (n : Int) : (loD Tryz.prog (XE xs0) (anyF Tryz.prog) 1000000 1001 []).call 5 [.int .i64 n] ⟨.tip, 0⟩ = some (.bool true, ⟨.tip, 0⟩) := by
  obtain ⟨w1, h3, w2, h4, h5, w3, h6, h7, e1, e2, e3, e4, e5⟩ := fwChain_out fwChain_ok
  exact call_pure (n := 1000) rfl rfl rfl (fw c21 c21 e1 e2 e3 (c24 n h5) (c28 n h5) e4 e5)
theorem follows : Tryz.prog.follows .mixedOrders = true := by kernel_rfl
theorem names_all : (Tryz.prog.funcs.all fun fn => fn.name != "runtime.NumGoroutine") = true := by kernel_rfl
theorem names_ok (f : Nat) (fn : Func) (h : Tryz.prog.funcs[f]? = some fn) : fn.name ≠ "runtime.NumGoroutine" := by
  have := Array.all_eq_true_iff_forall_mem.1 names_all fn (Array.mem_of_getElem? h)
  simpa using this
theorem xs_ok : ∀ f k, xkFind xs0 f = some k → k.ok Tryz.prog f := by
  intro f k h
  simp only [xs0, xkFind] at h
  split at h
  · subst_vars; cases h
    exact ⟨_, _, Tryz.func298, by kernel_rfl, by kernel_rfl, by kernel_rfl, by kernel_rfl, rfl⟩
  split at h
  · subst_vars; cases h
    exact ⟨_, Extern.MathFloor.toIntegral "math.archFloor" .down, Tryz.func135, by kernel_rfl, by kernel_rfl, by kernel_rfl, by kernel_rfl, ⟨_, rfl⟩⟩
  split at h
  · subst_vars; cases h
    exact ⟨_, Extern.MathFloor.toIntegral "math.archTrunc" .zero, Tryz.func275, by kernel_rfl, by kernel_rfl, by kernel_rfl, by kernel_rfl, ⟨_, rfl⟩⟩
  split at h
  · subst_vars; cases h
    exact ⟨_, _, Tryz.func100, by kernel_rfl, by kernel_rfl, by kernel_rfl, by kernel_rfl, rfl⟩
  split at h
  · subst_vars; cases h
    exact ⟨_, _, Tryz.func137, by kernel_rfl, by kernel_rfl, by kernel_rfl, by kernel_rfl, rfl⟩
  · cases h
theorem good (n : Nat) : GoodLo Tryz.prog [] (loD Tryz.prog (XE xs0) (anyF Tryz.prog) 1000000 n []) := run_sound follows names_ok xs_ok 1000000 n
theorem walk5 (n : Int) (w : World) : Calls Tryz.prog 5 #[.int .i64 n] w fun e w' => e = .returned (.bool true) ∧ ∀ may, w.keptBut w' may := by
  refine (calls_of_run (good 1001) (run5 n) (xs := [.int .i64 n]) ?_ Tryz.func5 rfl (names_ok 5 _ Tryz.func5) w).mono fun e w' h => ?_
  · exact VRs_mk (by simp only [VR]) VRs_nil'
  · obtain ⟨x, he, ⟨ρ, hv⟩, hs, hk⟩ := h
    have hv : x = .bool true := by simpa only [VR] using hv
    subst hv
    exact ⟨he, fun may => keptBut_of hs hk may⟩
#print axioms walk5
