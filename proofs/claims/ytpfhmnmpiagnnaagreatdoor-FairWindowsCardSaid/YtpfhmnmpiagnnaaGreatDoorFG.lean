/- The closed facts of FairWindows' row, one by one. -/
import Derived.Test.YtpfhmnmpiagnnaaGreatDoorRows
import Derived.JoinedOf
import Derived.KernelRfl
namespace Go.Proofs.YtpfhmnmpiagnnaaGreatDoor
open Go
set_option maxRecDepth 100000 in
theorem fw_j0 : (Rows.fairWindowsRow.wf (OpenSpec.ofChange Rows.fairWindowsSpec)) = true := by kernel_rfl
set_option maxRecDepth 100000 in
theorem fw_j1 : (laidOutB Tryz.prog) = true := by kernel_rfl
set_option maxRecDepth 100000 in
theorem fw_j2 : (mapsRowed Tryz.prog) = true := by kernel_rfl
set_option maxRecDepth 100000 in
theorem fw_j3 : (Tryz.f5.params.all (Tryz.prog.readableRec ·)) = true := by kernel_rfl
set_option maxRecDepth 100000 in
theorem fw_j4 : (namedTie Tryz.prog Rows.fairWindowsRow.named Rows.fairWindowsSpec.vars) = true := by kernel_rfl
set_option maxRecDepth 100000 in
theorem fw_j5 : ((Rows.fairWindowsRow.stops == [])) = true := by kernel_rfl
set_option maxRecDepth 100000 in
theorem fw_j6 : ((Tryz.prog.stops == [])) = true := by kernel_rfl
set_option maxRecDepth 100000 in
theorem fw_j7 : ((Rows.fairWindowsRow.knobs == [])) = true := by kernel_rfl
set_option maxRecDepth 100000 in
theorem fw_j8 : ((Tryz.prog.stopKnobs == [])) = true := by kernel_rfl
set_option maxRecDepth 100000 in
theorem fw_j9 : ((Rows.fairWindowsRow.inPlace == Tryz.prog.inPlace 5)) = true := by kernel_rfl
set_option maxRecDepth 100000 in
theorem fw_j10 : ((Rows.fairWindowsRow.unfollowed == Tryz.prog.unfollowed 5)) = true := by kernel_rfl
set_option maxRecDepth 100000 in
theorem fw_j11 : ((Rows.fairWindowsRow.recurses == Tryz.prog.recurses 5)) = true := by kernel_rfl
set_option maxRecDepth 100000 in
theorem fw_j12 : ((Rows.fairWindowsRow.named == Tryz.prog.varsNamed 5)) = true := by kernel_rfl
set_option maxRecDepth 100000 in
theorem fw_j13 : ((Rows.fairWindowsRow.maps == (Tryz.f5.params.toList ++ Rows.fairWindowsSpec.plain.varTypes Tryz.prog).any (Tryz.prog.mapsRec ·))) = true := by kernel_rfl
set_option maxRecDepth 100000 in
theorem fw_j14 : ((Rows.fairWindowsRow.ifaces == (Tryz.f5.params.toList ++ Rows.fairWindowsSpec.plain.varTypes Tryz.prog).any (Tryz.prog.ifacesRec ·))) = true := by kernel_rfl
set_option maxRecDepth 100000 in
theorem fw_j15 : ((Rows.fairWindowsRow.mapsOut == Tryz.prog.mapsAmong Tryz.f5.resultTypes.toList)) = true := by kernel_rfl
set_option maxRecDepth 100000 in
theorem fw_j16 : ((Rows.fairWindowsRow.loops == (Tryz.f5.params.toList ++ Rows.fairWindowsSpec.plain.varTypes Tryz.prog).any (Tryz.prog.loopsFrom ·))) = true := by kernel_rfl
set_option maxRecDepth 100000 in
theorem fw_j17 : ((Rows.fairWindowsRow.wideKeys == (Tryz.f5.params.toList ++ Rows.fairWindowsSpec.plain.varTypes Tryz.prog ++ Tryz.f5.resultTypes.toList).any (Tryz.prog.wideKeysFrom ·))) = true := by kernel_rfl
set_option maxRecDepth 100000 in
theorem fw_j18 : (Rows.fairWindowsSpec.vars.all (Tryz.prog.varReadable ·)) = true := by kernel_rfl
set_option maxRecDepth 100000 in
theorem fw_j19 : (Tryz.f5.resultTypes.all (fun t => Tryz.prog.readableRec t && decide (t < Tryz.prog.types.size))) = true := by kernel_rfl
set_option maxRecDepth 100000 in
theorem fw_j20 : ((Rows.fairWindowsRow.ifacesOut == Tryz.f5.resultTypes.toList.any (Tryz.prog.ifacesRec ·))) = true := by kernel_rfl
set_option maxRecDepth 100000 in
theorem fw_j21 : ((Rows.fairWindowsRow.loopsOut == Tryz.f5.resultTypes.toList.any (Tryz.prog.loopsFrom ·))) = true := by kernel_rfl
set_option maxRecDepth 100000 in
theorem fw_j22 : ((Rows.fairWindowsRow.plainKeys == Tryz.prog.plainKeys)) = true := by kernel_rfl
set_option maxRecDepth 100000 in
theorem fw_j23 : (Rows.fairWindowsRow.shortTexts.isNone) = true := by kernel_rfl
set_option maxRecDepth 100000 in
theorem fw_j24 : (Tryz.prog.stopsHeard) = true := by kernel_rfl
set_option maxRecDepth 100000 in
theorem fw_j25 : (Tryz.prog.mayEnter) = true := by kernel_rfl
set_option maxRecDepth 100000 in
theorem fw_j26 : ((Rows.fairWindowsRow.lifted == Tryz.prog.liftsFinal)) = true := by kernel_rfl
set_option maxRecDepth 100000 in
theorem fw_j27 : ((Tryz.prog.make == some Rows.fairWindowsRow.make)) = true := by kernel_rfl
set_option maxRecDepth 100000 in
theorem fw_j28 : ((Rows.fairWindowsRow.kinds == (if Rows.fairWindowsRow.domain.isEmpty then [] else Tryz.f5.params.toList.map fun t => match Tryz.prog.underlying t with | some (.int k) => some k | _ => none))) = true := by kernel_rfl
set_option maxRecDepth 100000 in
theorem fw_j29 : ((Rows.fairWindowsRow.pinned == Rows.fairWindowsRow.pinnedBy)) = true := by kernel_rfl
set_option maxRecDepth 100000 in
theorem fw_j30 : ((Rows.fairWindowsRow.veiled == (Tryz.f5.params.toList ++ Rows.fairWindowsSpec.plain.varTypes Tryz.prog ++ Tryz.f5.resultTypes.toList).any (Tryz.prog.veiledRec ·))) = true := by kernel_rfl
set_option maxRecDepth 100000 in
theorem fw_j31 : (Rows.fairWindowsRow.veiledFits Tryz.prog Tryz.f5.params.toList (Tryz.f5.params.toList ++ Rows.fairWindowsSpec.plain.varTypes Tryz.prog ++ Tryz.f5.resultTypes.toList)) = true := by kernel_rfl
theorem and_mk {a b : Bool} (ha : a = true) (hb : b = true) : (a && b) = true := by rw [ha, hb]; rfl
end Go.Proofs.YtpfhmnmpiagnnaaGreatDoor
