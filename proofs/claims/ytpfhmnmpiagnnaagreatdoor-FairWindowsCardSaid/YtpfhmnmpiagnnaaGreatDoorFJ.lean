/- FairWindows (law 27), for every n: the call returns true and its argument reads behind the call as it read before. Conditions: those of the given row and card alone. -/
import Derived.Test.YtpfhmnmpiagnnaaGreatDoorFI
import Derived.Test.YtpfhmnmpiagnnaaGreatDoorFJ1
namespace Go.Proofs.YtpfhmnmpiagnnaaGreatDoor
open Go Go.RowKit Go.ChangeShapes Go.WideShapes Go.ChangeAt
theorem card_holds : Rows.FairWindowsCardSaid :=
  Claim7.holds_tied_plain_at .later [] [.data, .data, .data, .data, .sentinel, .sentinel, .pinned] true (true, "da65be8afe621a1d207c7b75e245dac5e7181c7b9e049bb14c8fa50188a12d5a") true holds (fun _ h => by cases h) fw_c1 (fun _ h => by cases h) fairWindows_row_tie rfl ⟨rfl, rfl⟩ fw_c2 rfl
    (fun f fn hf hfn => by
      obtain rfl : f = 5 := Option.some.inj (fw_c3.symm.trans hf) |>.symm
      obtain rfl : fn = Tryz.f5 := (Option.some.inj (Tryz.func5.symm.trans hfn)).symm
      exact ⟨fw_c4, fun j t ht => by
        rw [Tryz.params5] at ht
        have hm : t ∈ [3] := by simpa using Array.mem_of_getElem? ht
        exact (show Tryz.prog.wantsStandIn t = false by simpa using List.all_eq_true.1 fw_c5 t hm)⟩)
    fw_c6
#print axioms card_holds
end Go.Proofs.YtpfhmnmpiagnnaaGreatDoor
