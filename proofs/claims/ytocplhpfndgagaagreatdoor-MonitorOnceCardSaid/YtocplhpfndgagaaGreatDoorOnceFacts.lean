/- The closed facts of the row of 'monitorOnceRow', a theorem each (together they are too great for the kernel's room). -/
import Derived.Test.YtocplhpfndgagaaGreatDoorRows
import Derived.JoinedOf
namespace Go.Proofs.YtocplhpfndgagaaGreatDoor.facts
theorem and_mk {a b : Bool} (h : a = true) (k : b = true) : (a && b) = true := by rw [h, k]; rfl
set_option maxRecDepth 100000
theorem fact1 : (Rows.monitorOnceRow.wf (OpenSpec.ofChange Rows.monitorOnceSpec)) = true := by kernel_rfl
theorem fact2 : (laidOutB Tryz.prog) = true := by kernel_rfl
theorem fact3 : (mapsRowed Tryz.prog) = true := by kernel_rfl
theorem fact4 : (Tryz.f5.params.all (Tryz.prog.readableRec ·)) = true := by kernel_rfl
theorem fact5 : (namedTie Tryz.prog Rows.monitorOnceRow.named Rows.monitorOnceSpec.vars) = true := by kernel_rfl
theorem fact6 : (Rows.monitorOnceRow.stops == []) = true := by kernel_rfl
theorem fact7 : (Tryz.prog.stops == []) = true := by kernel_rfl
theorem fact8 : (Rows.monitorOnceRow.knobs == []) = true := by kernel_rfl
theorem fact9 : (Tryz.prog.stopKnobs == []) = true := by kernel_rfl
theorem fact10 : (Rows.monitorOnceRow.inPlace == Tryz.prog.inPlace 5) = true := by kernel_rfl
theorem fact11 : (Rows.monitorOnceRow.unfollowed == Tryz.prog.unfollowed 5) = true := by kernel_rfl
theorem fact12 : (Rows.monitorOnceRow.recurses == Tryz.prog.recurses 5) = true := by kernel_rfl
theorem fact13 : (Rows.monitorOnceRow.named == Tryz.prog.varsNamed 5) = true := by kernel_rfl
theorem fact14 : (Rows.monitorOnceRow.maps == (Tryz.f5.params.toList ++ Rows.monitorOnceSpec.plain.varTypes Tryz.prog).any (Tryz.prog.mapsRec ·)) = true := by kernel_rfl
theorem fact15 : (Rows.monitorOnceRow.ifaces == (Tryz.f5.params.toList ++ Rows.monitorOnceSpec.plain.varTypes Tryz.prog).any (Tryz.prog.ifacesRec ·)) = true := by kernel_rfl
theorem fact16 : (Rows.monitorOnceRow.mapsOut == Tryz.prog.mapsAmong Tryz.f5.resultTypes.toList) = true := by kernel_rfl
theorem fact17 : (Rows.monitorOnceRow.loops == (Tryz.f5.params.toList ++ Rows.monitorOnceSpec.plain.varTypes Tryz.prog).any (Tryz.prog.loopsFrom ·)) = true := by kernel_rfl
theorem fact18 : (Rows.monitorOnceRow.wideKeys == (Tryz.f5.params.toList ++ Rows.monitorOnceSpec.plain.varTypes Tryz.prog ++ Tryz.f5.resultTypes.toList).any (Tryz.prog.wideKeysFrom ·)) = true := by kernel_rfl
theorem fact19 : (Rows.monitorOnceSpec.vars.all (Tryz.prog.varReadable ·)) = true := by kernel_rfl
theorem fact20 : (Tryz.f5.resultTypes.all (fun t => Tryz.prog.readableRec t && decide (t < Tryz.prog.types.size))) = true := by kernel_rfl
theorem fact21 : (Rows.monitorOnceRow.ifacesOut == Tryz.f5.resultTypes.toList.any (Tryz.prog.ifacesRec ·)) = true := by kernel_rfl
theorem fact22 : (Rows.monitorOnceRow.loopsOut == Tryz.f5.resultTypes.toList.any (Tryz.prog.loopsFrom ·)) = true := by kernel_rfl
theorem fact23 : (Rows.monitorOnceRow.plainKeys == Tryz.prog.plainKeys) = true := by kernel_rfl
theorem fact24 : (Rows.monitorOnceRow.shortTexts.isNone) = true := by kernel_rfl
theorem fact25 : (Tryz.prog.stopsHeard) = true := by kernel_rfl
theorem fact26 : (Tryz.prog.mayEnter) = true := by kernel_rfl
theorem fact27 : (Rows.monitorOnceRow.lifted == Tryz.prog.liftsFinal) = true := by kernel_rfl
theorem fact28 : (Tryz.prog.make == some Rows.monitorOnceRow.make) = true := by kernel_rfl
theorem fact29 : (Rows.monitorOnceRow.kinds == (if Rows.monitorOnceRow.domain.isEmpty then [] else Tryz.f5.params.toList.map fun t => match Tryz.prog.underlying t with | some (.int k) => some k | _ => none)) = true := by kernel_rfl
theorem fact30 : (Rows.monitorOnceRow.pinned == Rows.monitorOnceRow.pinnedBy) = true := by kernel_rfl
theorem fact31 : (Rows.monitorOnceRow.veiled == (Tryz.f5.params.toList ++ Rows.monitorOnceSpec.plain.varTypes Tryz.prog ++ Tryz.f5.resultTypes.toList).any (Tryz.prog.veiledRec ·)) = true := by kernel_rfl
theorem fact32 : (Rows.monitorOnceRow.veiledFits Tryz.prog Tryz.f5.params.toList (Tryz.f5.params.toList ++ Rows.monitorOnceSpec.plain.varTypes Tryz.prog ++ Tryz.f5.resultTypes.toList)) = true := by kernel_rfl
theorem facts : joinedFacts Tryz.prog 5 Tryz.f5 Rows.monitorOnceSpec Rows.monitorOnceRow = true := and_mk (and_mk (and_mk (and_mk (and_mk (and_mk (and_mk (and_mk (and_mk (and_mk (and_mk (and_mk (and_mk (and_mk (and_mk (and_mk (and_mk (and_mk (and_mk (and_mk (and_mk (and_mk (and_mk (and_mk (and_mk (and_mk (and_mk (and_mk (and_mk (and_mk (and_mk (fact1) fact2) fact3) fact4) fact5) fact6) fact7) fact8) fact9) fact10) fact11) fact12) fact13) fact14) fact15) fact16) fact17) fact18) fact19) fact20) fact21) fact22) fact23) fact24) fact25) fact26) fact27) fact28) fact29) fact30) fact31) fact32
end Go.Proofs.YtocplhpfndgagaaGreatDoor.facts
