/- The runs of some of the pieces. -/
import Derived.Test.YtocplhpfndgagaaGreatDoorLiveDefs
namespace Go.Proofs.YtocplhpfndgagaaGreatDoor
open Go.Ev
set_option maxRecDepth 100000
set_option maxHeartbeats 4000000
theorem k69_run : pieceOk Tryz.prog [] k69 = true := by decide +kernel
theorem k55_run : pieceOk Tryz.prog [] k55 = true := by decide +kernel
theorem k57_run : pieceOk Tryz.prog [] k57 = true := by decide +kernel
theorem k70_run : pieceOk Tryz.prog [] k70 = true := by decide +kernel
theorem k62_run : pieceOk Tryz.prog [] k62 = true := by decide +kernel
theorem k53_run : pieceOk Tryz.prog [] k53 = true := by decide +kernel
theorem k2_run : pieceOk Tryz.prog [] k2 = true := by decide +kernel
theorem k12_run : pieceOk Tryz.prog [] k12 = true := by decide +kernel
theorem k22_run : pieceOk Tryz.prog [] k22 = true := by decide +kernel
theorem k31_run : pieceOk Tryz.prog [] k31 = true := by decide +kernel
theorem k37_run : pieceOk Tryz.prog [] k37 = true := by decide +kernel
theorem k43_run : pieceOk Tryz.prog [] k43 = true := by decide +kernel
theorem k50_run : pieceOk Tryz.prog [] k50 = true := by decide +kernel
theorem k48_run : pieceOk Tryz.prog [] k48 = true := by decide +kernel
theorem k15_run : pieceOk Tryz.prog [] k15 = true := by decide +kernel
theorem k14_run : pieceOk Tryz.prog [] k14 = true := by decide +kernel
theorem k35_run : pieceOk Tryz.prog [] k35 = true := by decide +kernel
theorem k27_run : pieceOk Tryz.prog [] k27 = true := by decide +kernel
end Go.Proofs.YtocplhpfndgagaaGreatDoor
