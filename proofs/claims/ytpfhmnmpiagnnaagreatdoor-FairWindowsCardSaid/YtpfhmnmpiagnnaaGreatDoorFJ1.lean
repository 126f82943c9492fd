/- The closed facts of FairWindows' card. -/
import Derived.Test.YtpfhmnmpiagnnaaGreatDoorRows
import Derived.Test.YtpfhmnmpiagnnaaGreatDoorCards
import Derived.Test.YtpfhmnmpiagnnaaGreatDoorTie
import Derived.SevenTiedAt
import Derived.KernelRfl
namespace Go.Proofs.YtpfhmnmpiagnnaaGreatDoor
open Go
set_option maxRecDepth 100000 in
theorem fw_c1 : Rows.fairWindowsRow.wfByText (OpenSpec.ofChange Rows.fairWindowsSpec) = true := by kernel_rfl
set_option maxRecDepth 100000 in
theorem fw_c2 : Tryz.prog.mainIs = some (true, "da65be8afe621a1d207c7b75e245dac5e7181c7b9e049bb14c8fa50188a12d5a".toList) := by kernel_rfl
set_option maxRecDepth 100000 in
theorem fw_c3 : Tryz.prog.funcNamed "undertow/undertowlaw27.FairWindows" = some 5 := by kernel_rfl
set_option maxRecDepth 100000 in
theorem fw_c4 : true = Tryz.prog.looks [] := by kernel_rfl
set_option maxRecDepth 100000 in
theorem fw_c5 : ([3].all fun u => !Tryz.prog.wantsStandIn u) = true := by kernel_rfl
set_option maxRecDepth 100000 in
theorem fw_c6 : false = Rows.fairWindowsRow.goesBy Tryz.prog := by kernel_rfl
end Go.Proofs.YtpfhmnmpiagnnaaGreatDoor
