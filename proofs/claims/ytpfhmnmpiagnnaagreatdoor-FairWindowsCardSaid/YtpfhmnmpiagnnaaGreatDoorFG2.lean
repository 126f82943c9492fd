import Derived.Test.YtpfhmnmpiagnnaaGreatDoorFG
namespace Go.Proofs.YtpfhmnmpiagnnaaGreatDoor
open Go
set_option maxRecDepth 100000 in
theorem fw_closed : joinedFacts Tryz.prog 5 Tryz.f5 Rows.fairWindowsSpec Rows.fairWindowsRow = true := by
  unfold joinedFacts
  exact (and_mk (and_mk (and_mk (and_mk (and_mk (and_mk (and_mk (and_mk (and_mk (and_mk (and_mk (and_mk (and_mk (and_mk (and_mk (and_mk (and_mk (and_mk (and_mk (and_mk (and_mk (and_mk (and_mk (and_mk (and_mk (and_mk (and_mk (and_mk (and_mk (and_mk (and_mk fw_j0 fw_j1) fw_j2) fw_j3) fw_j4) fw_j5) fw_j6) fw_j7) fw_j8) fw_j9) fw_j10) fw_j11) fw_j12) fw_j13) fw_j14) fw_j15) fw_j16) fw_j17) fw_j18) fw_j19) fw_j20) fw_j21) fw_j22) fw_j23) fw_j24) fw_j25) fw_j26) fw_j27) fw_j28) fw_j29) fw_j30) fw_j31)
end Go.Proofs.YtpfhmnmpiagnnaaGreatDoor
