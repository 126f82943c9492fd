import Derived.Test.YtpfhmnmpiagnnaaGreatDoorProg
import Derived.Test.YtpfhmnmpiagnnaaGreatDoorD21
import Derived.IntWalk
open Go Go.D Go.Proofs
/-- What both bounds are. -/
def bnd (n : Int) : Int := 10 * (if n < 0 then 0 else if n > 10000 then 10000 else n) + 14
theorem bound24 {lo : Lo} {any : AnyF} {L : Nat} {n : Int} {h : Heap} : bodyD Tryz.prog any L lo 24 [.int .i64 n] h = some (.int .i64 (bnd n), h) := by
  obtain ⟨m, hm⟩ : ∃ m : Int, m = if (10000 : Int) < n then 10000 else n := ⟨_, rfl⟩
  obtain ⟨q, hq⟩ : ∃ q : Int, q = if m > 0 then m else 0 := ⟨_, rfl⟩
  have hq0 : 0 ≤ q ∧ q ≤ 10000 := by rw [hq, hm]; split <;> split <;> omega
  have hb : bnd n = 10 * (q + 1) + 4 := by unfold bnd; rw [hq, hm]; split <;> split <;> split <;> (try split) <;> omega
  rw [hb]
  apply bodyD_of (vs := [.int .i64 (10 * (q + 1) + 4)]) (x := .ret) Tryz.func24 rfl
  · apply codeD_seq
    · apply codeD_region
      exact opsD_rest (v := .int .i64 0) (h' := h) (by kernel_rfl) (by kernel_rfl) (by kernel_rfl) (by kernel_rfl) opsD_nil
    apply codeD_seq
    · apply codeD_region
      apply opsD_rest (v := .int .i64 n) (h' := h) (by kernel_rfl) (by kernel_rfl) (by kernel_rfl) (by kernel_rfl)
      apply opsD_rest (v := .int .i64 m) (h' := h) (by kernel_rfl) (by kernel_rfl) (by kernel_rfl) (by rw [hm]; kernel_rfl)
      apply opsD_rest (v := .int .i64 q) (h' := h) (by kernel_rfl) (by kernel_rfl) (by kernel_rfl) (by rw [hq]; kernel_rfl)
      apply opsD_rest (v := .int .i64 (q + 1)) (h' := h) (by kernel_rfl) (by kernel_rfl) (by kernel_rfl) ((show _ = some (SV.int .i64 (IntKind.i64.wrap (q + 1)), h) by kernel_rfl).trans (by rw [IntWalk.i64_in _ (by omega)]))
      apply opsD_rest (v := .int .i64 (10 * (q + 1))) (h' := h) (by kernel_rfl) (by kernel_rfl) (by kernel_rfl) ((show _ = some (SV.int .i64 (IntKind.i64.wrap (10 * (q + 1))), h) by kernel_rfl).trans (by rw [IntWalk.i64_in _ (by omega)]))
      apply opsD_rest (v := .int .i64 (10 * (q + 1) + 4)) (h' := h) (by kernel_rfl) (by kernel_rfl) (by kernel_rfl) ((show _ = some (SV.int .i64 (IntKind.i64.wrap (10 * (q + 1) + 4)), h) by kernel_rfl).trans (by rw [IntWalk.i64_in _ (by omega)]))
      apply opsD_rest (v := .int .i64 (10 * (q + 1) + 4)) (h' := h) (by kernel_rfl) (by kernel_rfl) (by kernel_rfl) (by kernel_rfl)
      exact opsD_nil
    · exact codeD_ret
  · exact .inr rfl
  · kernel_rfl
theorem bound28_neg {lo : Lo} {any : AnyF} {L : Nat} {n : Int} {h : Heap} (h1 : decide (n < 0) = true) :
    bodyD Tryz.prog any L lo 28 [.int .i64 n] h = some (.int .i64 (10 * 0 + 14), h) := by
  apply bodyD_of (vs := [.int .i64 (10 * 0 + 14)]) (x := .ret) Tryz.func28 rfl
  · apply codeD_seq
    · apply codeD_region
      exact opsD_rest (v := .int .i64 0) (h' := h) (by kernel_rfl) (by kernel_rfl) (by kernel_rfl) (by kernel_rfl) opsD_nil
    apply codeD_seq
    · apply codeD_seq
      · apply codeD_region
        apply opsD_rest (v := .int .i64 n) (h' := h) (by kernel_rfl) (by kernel_rfl) (by kernel_rfl) (by kernel_rfl)
        exact opsD_rest (v := .bool true) (h' := h) (by kernel_rfl) (by kernel_rfl) (by kernel_rfl) ((show _ = some (SV.bool (decide (n < 0)), h) by kernel_rfl).trans (by rw [h1])) opsD_nil
      apply codeD_cond_true
      · kernel_rfl
      · apply codeD_region
        exact opsD_rest (v := .int .i64 0) (h' := h) (by kernel_rfl) (by kernel_rfl) (by kernel_rfl) (by kernel_rfl) opsD_nil
    apply codeD_seq
    · apply codeD_seq
      · apply codeD_region
        apply opsD_rest (v := .int .i64 0) (h' := h) (by kernel_rfl) (by kernel_rfl) (by kernel_rfl) (by kernel_rfl)
        exact opsD_rest (v := .bool false) (h' := h) (by kernel_rfl) (by kernel_rfl) (by kernel_rfl) (by kernel_rfl) opsD_nil
      apply codeD_cond_false
      · kernel_rfl
      · exact codeD_skip
    apply codeD_seq
    · apply codeD_region
      apply opsD_rest (v := .int .i64 0) (h' := h) (by kernel_rfl) (by kernel_rfl) (by kernel_rfl) (by kernel_rfl)
      apply opsD_rest (v := .int .i64 (10 * 0)) (h' := h) (by kernel_rfl) (by kernel_rfl) (by kernel_rfl) ((show _ = some (SV.int .i64 (IntKind.i64.wrap (10 * 0)), h) by kernel_rfl).trans (by rw [IntWalk.i64_in _ (by omega)]))
      apply opsD_rest (v := .int .i64 (10 * 0 + 14)) (h' := h) (by kernel_rfl) (by kernel_rfl) (by kernel_rfl) ((show _ = some (SV.int .i64 (IntKind.i64.wrap (10 * 0 + 14)), h) by kernel_rfl).trans (by rw [IntWalk.i64_in _ (by omega)]))
      exact opsD_rest (v := .int .i64 (10 * 0 + 14)) (h' := h) (by kernel_rfl) (by kernel_rfl) (by kernel_rfl) (by kernel_rfl) opsD_nil
    · exact codeD_ret
  · exact .inr rfl
  · kernel_rfl
theorem bound28_big {lo : Lo} {any : AnyF} {L : Nat} {n : Int} {h : Heap} (h1 : decide (n < 0) = false) (h2 : decide (n > 10000) = true) :
    bodyD Tryz.prog any L lo 28 [.int .i64 n] h = some (.int .i64 (10 * 10000 + 14), h) := by
  apply bodyD_of (vs := [.int .i64 (10 * 10000 + 14)]) (x := .ret) Tryz.func28 rfl
  · apply codeD_seq
    · apply codeD_region
      exact opsD_rest (v := .int .i64 0) (h' := h) (by kernel_rfl) (by kernel_rfl) (by kernel_rfl) (by kernel_rfl) opsD_nil
    apply codeD_seq
    · apply codeD_seq
      · apply codeD_region
        apply opsD_rest (v := .int .i64 n) (h' := h) (by kernel_rfl) (by kernel_rfl) (by kernel_rfl) (by kernel_rfl)
        exact opsD_rest (v := .bool false) (h' := h) (by kernel_rfl) (by kernel_rfl) (by kernel_rfl) ((show _ = some (SV.bool (decide (n < 0)), h) by kernel_rfl).trans (by rw [h1])) opsD_nil
      apply codeD_cond_false
      · kernel_rfl
      · exact codeD_skip
    apply codeD_seq
    · apply codeD_seq
      · apply codeD_region
        apply opsD_rest (v := .int .i64 n) (h' := h) (by kernel_rfl) (by kernel_rfl) (by kernel_rfl) (by kernel_rfl)
        exact opsD_rest (v := .bool true) (h' := h) (by kernel_rfl) (by kernel_rfl) (by kernel_rfl) ((show _ = some (SV.bool (decide (n > 10000)), h) by kernel_rfl).trans (by rw [h2])) opsD_nil
      apply codeD_cond_true
      · kernel_rfl
      · apply codeD_region
        exact opsD_rest (v := .int .i64 10000) (h' := h) (by kernel_rfl) (by kernel_rfl) (by kernel_rfl) (by kernel_rfl) opsD_nil
    apply codeD_seq
    · apply codeD_region
      apply opsD_rest (v := .int .i64 10000) (h' := h) (by kernel_rfl) (by kernel_rfl) (by kernel_rfl) (by kernel_rfl)
      apply opsD_rest (v := .int .i64 (10 * 10000)) (h' := h) (by kernel_rfl) (by kernel_rfl) (by kernel_rfl) ((show _ = some (SV.int .i64 (IntKind.i64.wrap (10 * 10000)), h) by kernel_rfl).trans (by rw [IntWalk.i64_in _ (by omega)]))
      apply opsD_rest (v := .int .i64 (10 * 10000 + 14)) (h' := h) (by kernel_rfl) (by kernel_rfl) (by kernel_rfl) ((show _ = some (SV.int .i64 (IntKind.i64.wrap (10 * 10000 + 14)), h) by kernel_rfl).trans (by rw [IntWalk.i64_in _ (by omega)]))
      exact opsD_rest (v := .int .i64 (10 * 10000 + 14)) (h' := h) (by kernel_rfl) (by kernel_rfl) (by kernel_rfl) (by kernel_rfl) opsD_nil
    · exact codeD_ret
  · exact .inr rfl
  · kernel_rfl
theorem bound28_mid {lo : Lo} {any : AnyF} {L : Nat} {n : Int} {h : Heap} (h1 : decide (n < 0) = false) (h2 : decide (n > 10000) = false) (hn : 0 ≤ n ∧ n ≤ 10000) :
    bodyD Tryz.prog any L lo 28 [.int .i64 n] h = some (.int .i64 (10 * n + 14), h) := by
  apply bodyD_of (vs := [.int .i64 (10 * n + 14)]) (x := .ret) Tryz.func28 rfl
  · apply codeD_seq
    · apply codeD_region
      exact opsD_rest (v := .int .i64 0) (h' := h) (by kernel_rfl) (by kernel_rfl) (by kernel_rfl) (by kernel_rfl) opsD_nil
    apply codeD_seq
    · apply codeD_seq
      · apply codeD_region
        apply opsD_rest (v := .int .i64 n) (h' := h) (by kernel_rfl) (by kernel_rfl) (by kernel_rfl) (by kernel_rfl)
        exact opsD_rest (v := .bool false) (h' := h) (by kernel_rfl) (by kernel_rfl) (by kernel_rfl) ((show _ = some (SV.bool (decide (n < 0)), h) by kernel_rfl).trans (by rw [h1])) opsD_nil
      apply codeD_cond_false
      · kernel_rfl
      · exact codeD_skip
    apply codeD_seq
    · apply codeD_seq
      · apply codeD_region
        apply opsD_rest (v := .int .i64 n) (h' := h) (by kernel_rfl) (by kernel_rfl) (by kernel_rfl) (by kernel_rfl)
        exact opsD_rest (v := .bool false) (h' := h) (by kernel_rfl) (by kernel_rfl) (by kernel_rfl) ((show _ = some (SV.bool (decide (n > 10000)), h) by kernel_rfl).trans (by rw [h2])) opsD_nil
      apply codeD_cond_false
      · kernel_rfl
      · exact codeD_skip
    apply codeD_seq
    · apply codeD_region
      apply opsD_rest (v := .int .i64 n) (h' := h) (by kernel_rfl) (by kernel_rfl) (by kernel_rfl) (by kernel_rfl)
      apply opsD_rest (v := .int .i64 (10 * n)) (h' := h) (by kernel_rfl) (by kernel_rfl) (by kernel_rfl) ((show _ = some (SV.int .i64 (IntKind.i64.wrap (10 * n)), h) by kernel_rfl).trans (by rw [IntWalk.i64_in _ (by omega)]))
      apply opsD_rest (v := .int .i64 (10 * n + 14)) (h' := h) (by kernel_rfl) (by kernel_rfl) (by kernel_rfl) ((show _ = some (SV.int .i64 (IntKind.i64.wrap (10 * n + 14)), h) by kernel_rfl).trans (by rw [IntWalk.i64_in _ (by omega)]))
      exact opsD_rest (v := .int .i64 (10 * n + 14)) (h' := h) (by kernel_rfl) (by kernel_rfl) (by kernel_rfl) (by kernel_rfl) opsD_nil
    · exact codeD_ret
  · exact .inr rfl
  · kernel_rfl
theorem bound28 {lo : Lo} {any : AnyF} {L : Nat} {n : Int} {h : Heap} : bodyD Tryz.prog any L lo 28 [.int .i64 n] h = some (.int .i64 (bnd n), h) := by
  unfold bnd
  by_cases h1 : n < 0
  · rw [if_pos h1]; exact bound28_neg (by simpa using h1)
  · by_cases h2 : n > 10000
    · rw [if_neg h1, if_pos h2]; exact bound28_big (by simpa using h1) (by simpa using h2)
    · rw [if_neg h1, if_neg h2]; exact bound28_mid (by simpa using h1) (by simpa using h2) (by omega)
