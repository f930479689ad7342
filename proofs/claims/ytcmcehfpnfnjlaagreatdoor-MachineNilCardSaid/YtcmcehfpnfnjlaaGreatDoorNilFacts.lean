/- The closed facts of the row of 'machineNilRow', a theorem each (together they are too great for the kernel's room). -/
import Derived.Test.YtcmcehfpnfnjlaaGreatDoorRows
import Derived.JoinedOf
namespace Go.Proofs.YtcmcehfpnfnjlaaGreatDoor.facts
theorem and_mk {a b : Bool} (h : a = true) (k : b = true) : (a && b) = true := by rw [h, k]; rfl
set_option maxRecDepth 100000
theorem fact1 : (Rows.machineNilRow.wf (OpenSpec.ofChange Rows.machineNilSpec)) = true := by kernel_rfl
theorem fact2 : (laidOutB Tryz.prog) = true := by kernel_rfl
theorem fact3 : (mapsRowed Tryz.prog) = true := by kernel_rfl
theorem fact4 : (Tryz.f4.params.all (Tryz.prog.readableRec ·)) = true := by kernel_rfl
theorem fact5 : (namedTie Tryz.prog Rows.machineNilRow.named Rows.machineNilSpec.vars) = true := by kernel_rfl
theorem fact6 : (Rows.machineNilRow.stops == []) = true := by kernel_rfl
theorem fact7 : (Tryz.prog.stops == []) = true := by kernel_rfl
theorem fact8 : (Rows.machineNilRow.knobs == []) = true := by kernel_rfl
theorem fact9 : (Tryz.prog.stopKnobs == []) = true := by kernel_rfl
theorem fact10 : (Rows.machineNilRow.inPlace == Tryz.prog.inPlace 4) = true := by kernel_rfl
theorem fact11 : (Rows.machineNilRow.unfollowed == Tryz.prog.unfollowed 4) = true := by kernel_rfl
theorem fact12 : (Rows.machineNilRow.recurses == Tryz.prog.recurses 4) = true := by kernel_rfl
theorem fact13 : (Rows.machineNilRow.named == Tryz.prog.varsNamed 4) = true := by kernel_rfl
theorem fact14 : (Rows.machineNilRow.maps == (Tryz.f4.params.toList ++ Rows.machineNilSpec.plain.varTypes Tryz.prog).any (Tryz.prog.mapsRec ·)) = true := by kernel_rfl
theorem fact15 : (Rows.machineNilRow.ifaces == (Tryz.f4.params.toList ++ Rows.machineNilSpec.plain.varTypes Tryz.prog).any (Tryz.prog.ifacesRec ·)) = true := by kernel_rfl
theorem fact16 : (Rows.machineNilRow.mapsOut == Tryz.prog.mapsAmong Tryz.f4.resultTypes.toList) = true := by kernel_rfl
theorem fact17 : (Rows.machineNilRow.loops == (Tryz.f4.params.toList ++ Rows.machineNilSpec.plain.varTypes Tryz.prog).any (Tryz.prog.loopsFrom ·)) = true := by kernel_rfl
theorem fact18 : (Rows.machineNilRow.wideKeys == (Tryz.f4.params.toList ++ Rows.machineNilSpec.plain.varTypes Tryz.prog ++ Tryz.f4.resultTypes.toList).any (Tryz.prog.wideKeysFrom ·)) = true := by kernel_rfl
theorem fact19 : (Rows.machineNilSpec.vars.all (Tryz.prog.varReadable ·)) = true := by kernel_rfl
theorem fact20 : (Tryz.f4.resultTypes.all (fun t => Tryz.prog.readableRec t && decide (t < Tryz.prog.types.size))) = true := by kernel_rfl
theorem fact21 : (Rows.machineNilRow.ifacesOut == Tryz.f4.resultTypes.toList.any (Tryz.prog.ifacesRec ·)) = true := by kernel_rfl
theorem fact22 : (Rows.machineNilRow.loopsOut == Tryz.f4.resultTypes.toList.any (Tryz.prog.loopsFrom ·)) = true := by kernel_rfl
theorem fact23 : (Rows.machineNilRow.plainKeys == Tryz.prog.plainKeys) = true := by kernel_rfl
theorem fact24 : (Rows.machineNilRow.shortTexts.isNone) = true := by kernel_rfl
theorem fact25 : (Tryz.prog.stopsHeard) = true := by kernel_rfl
theorem fact26 : (Tryz.prog.mayEnter) = true := by kernel_rfl
theorem fact27 : (Rows.machineNilRow.lifted == Tryz.prog.liftsFinal) = true := by kernel_rfl
theorem fact28 : (Tryz.prog.make == some Rows.machineNilRow.make) = true := by kernel_rfl
theorem fact29 : (Rows.machineNilRow.kinds == (if Rows.machineNilRow.domain.isEmpty then [] else Tryz.f4.params.toList.map fun t => match Tryz.prog.underlying t with | some (.int k) => some k | _ => none)) = true := by kernel_rfl
theorem fact30 : (Rows.machineNilRow.pinned == Rows.machineNilRow.pinnedBy) = true := by kernel_rfl
theorem fact31 : (Rows.machineNilRow.veiled == (Tryz.f4.params.toList ++ Rows.machineNilSpec.plain.varTypes Tryz.prog ++ Tryz.f4.resultTypes.toList).any (Tryz.prog.veiledRec ·)) = true := by kernel_rfl
theorem fact32 : (Rows.machineNilRow.veiledFits Tryz.prog Tryz.f4.params.toList (Tryz.f4.params.toList ++ Rows.machineNilSpec.plain.varTypes Tryz.prog ++ Tryz.f4.resultTypes.toList)) = true := by kernel_rfl
theorem facts : joinedFacts Tryz.prog 4 Tryz.f4 Rows.machineNilSpec Rows.machineNilRow = true := and_mk (and_mk (and_mk (and_mk (and_mk (and_mk (and_mk (and_mk (and_mk (and_mk (and_mk (and_mk (and_mk (and_mk (and_mk (and_mk (and_mk (and_mk (and_mk (and_mk (and_mk (and_mk (and_mk (and_mk (and_mk (and_mk (and_mk (and_mk (and_mk (and_mk (and_mk (fact1) fact2) fact3) fact4) fact5) fact6) fact7) fact8) fact9) fact10) fact11) fact12) fact13) fact14) fact15) fact16) fact17) fact18) fact19) fact20) fact21) fact22) fact23) fact24) fact25) fact26) fact27) fact28) fact29) fact30) fact31) fact32
end Go.Proofs.YtcmcehfpnfnjlaaGreatDoor.facts
