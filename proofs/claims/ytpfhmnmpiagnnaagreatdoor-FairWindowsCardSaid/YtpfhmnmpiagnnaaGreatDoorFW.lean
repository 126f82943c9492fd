import Derived.Test.YtpfhmnmpiagnnaaGreatDoorProg
import Derived.Test.YtpfhmnmpiagnnaaGreatDoorD21
open Go Go.D Go.Proofs
theorem fw {lo : Lo} {any : AnyF} {L : Nat} {n b : Int} {h0 h1 h2 h3 h4 h5 h6 h7 : Heap} {w1 w2 w3 : SV} (c1 : lo.call 21 [] h0 = some (.bool true, h1)) (c2 : lo.call 21 [] h1 = some (.bool true, h2)) (c3 : lo.call 26 [] h2 = some (w1, h3)) (c4 : lo.call 27 [] h3 = some (w2, h4))
    (c5 : lo.call 25 [w1, w2] h4 = some (.int .i64 1, h5)) (c6 : lo.call 24 [.int .i64 n] h5 = some (.int .i64 b, h5)) (c7 : lo.call 28 [.int .i64 n] h5 = some (.int .i64 b, h5)) (c8 : lo.call 26 [] h5 = some (w3, h6)) (c9 : lo.call 29 [w3, .int .i64 18] h6 = some (.bool true, h7)) :
    bodyD Tryz.prog any L lo 5 [.int .i64 n] h0 = some (.bool true, h7) := by
  apply bodyD_of (vs := [.bool true]) (x := .ret) Tryz.func5 rfl
  · apply codeD_seq
    · apply codeD_region
      exact opsD_rest (v := .bool false) (h' := h0) (by kernel_rfl) (by kernel_rfl) (by kernel_rfl) (by kernel_rfl) opsD_nil
    apply codeD_seq
    · apply codeD_seq
      · apply codeD_region
        apply opsD_call (f := 21) (xs := []) (by kernel_rfl) (by kernel_rfl) (by kernel_rfl) c1
        exact opsD_rest (v := .bool false) (h' := h1) (by kernel_rfl) (by kernel_rfl) (by kernel_rfl) (by kernel_rfl) opsD_nil
      apply codeD_cond_false
      · kernel_rfl
      · exact codeD_skip
    apply codeD_seq
    · apply codeD_region
      apply opsD_call (f := 21) (xs := []) (by kernel_rfl) (by kernel_rfl) (by kernel_rfl) c2
      apply opsD_rest (v := .bool true) (h' := h2) (by kernel_rfl) (by kernel_rfl) (by kernel_rfl) (by kernel_rfl)
      apply opsD_call (f := 26) (xs := []) (by kernel_rfl) (by kernel_rfl) (by kernel_rfl) c3
      apply opsD_call (f := 27) (xs := []) (by kernel_rfl) (by kernel_rfl) (by kernel_rfl) c4
      apply opsD_call (f := 25) (xs := [w1, w2]) (by kernel_rfl) (by kernel_rfl) (by kernel_rfl) c5
      apply opsD_rest (v := .bool true) (h' := h5) (by kernel_rfl) (by kernel_rfl) (by kernel_rfl) (by kernel_rfl)
      apply opsD_rest (v := .bool true) (h' := h5) (by kernel_rfl) (by kernel_rfl) (by kernel_rfl) (by kernel_rfl)
      apply opsD_rest (v := .bool true) (h' := h5) (by kernel_rfl) (by kernel_rfl) (by kernel_rfl) (by kernel_rfl)
      apply opsD_rest (v := .int .i64 n) (h' := h5) (by kernel_rfl) (by kernel_rfl) (by kernel_rfl) (by kernel_rfl)
      apply opsD_call (f := 24) (xs := [.int .i64 n]) (by kernel_rfl) (by kernel_rfl) (by kernel_rfl) c6
      apply opsD_rest (v := .int .i64 n) (h' := h5) (by kernel_rfl) (by kernel_rfl) (by kernel_rfl) (by kernel_rfl)
      apply opsD_call (f := 28) (xs := [.int .i64 n]) (by kernel_rfl) (by kernel_rfl) (by kernel_rfl) c7
      apply opsD_rest (v := .bool true) (h' := h5) (by kernel_rfl) (by kernel_rfl) (by kernel_rfl)
      · refine Eq.trans (b := some (SV.bool (b == b), h5)) (by kernel_rfl) ?_
        rw [beq_self_eq_true]
      apply opsD_rest (v := .bool true) (h' := h5) (by kernel_rfl) (by kernel_rfl) (by kernel_rfl) (by kernel_rfl)
      apply opsD_rest (v := .bool true) (h' := h5) (by kernel_rfl) (by kernel_rfl) (by kernel_rfl) (by kernel_rfl)
      apply opsD_call (f := 26) (xs := []) (by kernel_rfl) (by kernel_rfl) (by kernel_rfl) c8
      apply opsD_call (f := 29) (xs := [w3, .int .i64 18]) (by kernel_rfl) (by kernel_rfl) (by kernel_rfl) c9
      apply opsD_rest (v := .bool true) (h' := h7) (by kernel_rfl) (by kernel_rfl) (by kernel_rfl) (by kernel_rfl)
      apply opsD_rest (v := .bool true) (h' := h7) (by kernel_rfl) (by kernel_rfl) (by kernel_rfl) (by kernel_rfl)
      exact opsD_nil
    · exact codeD_ret
  · exact .inr rfl
  · kernel_rfl
#print axioms fw
