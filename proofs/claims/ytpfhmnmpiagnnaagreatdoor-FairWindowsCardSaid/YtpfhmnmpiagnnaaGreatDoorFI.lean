import Derived.Test.YtpfhmnmpiagnnaaGreatDoorFH
import Derived.Test.YtpfhmnmpiagnnaaGreatDoorFG2
namespace Go.Proofs.YtpfhmnmpiagnnaaGreatDoor
open Go Go.RowKit Go.ChangeShapes Go.WideShapes Go.ChangeAt
theorem fw_named : Tryz.prog.funcNamed Rows.fairWindowsRow.func = some 5 := by kernel_rfl
theorem holds : Rows.FairWindowsSaid :=
  OpenClaim.holds_of_wide 5 Tryz.f5 rfl rfl rfl rfl rfl rfl rfl ⟨rfl, rfl, rfl, rfl, rfl⟩ rfl rfl rfl rfl rfl fw_named Tryz.func5 fw_closed
    (of_decide_eq_true (by as_aux_lemma => kernel_rfl)) (by unfold Func.isWrapper; first | (rw [if_pos (by decide +kernel)]; kernel_rfl) | (rw [if_neg (by decide +kernel)]; exact ⟨rfl, rfl⟩))
    (fun os started H enc _ => lifted os started H enc)
end Go.Proofs.YtpfhmnmpiagnnaaGreatDoor
