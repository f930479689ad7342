/- The runs of some of the pieces. -/
import Derived.Test.YtocplhpfndgagaaGreatDoorLiveDefs
namespace Go.Proofs.YtocplhpfndgagaaGreatDoor
open Go.Ev
set_option maxRecDepth 100000
set_option maxHeartbeats 4000000
theorem k72_run : pieceOk Tryz.prog [k59, k60, k61, k62, k63, k64, k65, k68, k69, k70, k71] k72 = true := by decide +kernel
theorem k71_run : pieceOk Tryz.prog [] k71 = true := by decide +kernel
theorem k58_run : pieceOk Tryz.prog [k57] k58 = true := by decide +kernel
theorem k54_run : pieceOk Tryz.prog [] k54 = true := by decide +kernel
theorem k59_run : pieceOk Tryz.prog [k58] k59 = true := by decide +kernel
theorem k0_run : pieceOk Tryz.prog [] k0 = true := by decide +kernel
theorem k13_run : pieceOk Tryz.prog [] k13 = true := by decide +kernel
theorem k1_run : pieceOk Tryz.prog [] k1 = true := by decide +kernel
theorem k11_run : pieceOk Tryz.prog [] k11 = true := by decide +kernel
theorem k21_run : pieceOk Tryz.prog [] k21 = true := by decide +kernel
theorem k30_run : pieceOk Tryz.prog [] k30 = true := by decide +kernel
theorem k36_run : pieceOk Tryz.prog [] k36 = true := by decide +kernel
theorem k42_run : pieceOk Tryz.prog [] k42 = true := by decide +kernel
theorem k49_run : pieceOk Tryz.prog [] k49 = true := by decide +kernel
theorem k40_run : pieceOk Tryz.prog [] k40 = true := by decide +kernel
theorem k8_run : pieceOk Tryz.prog [] k8 = true := by decide +kernel
theorem k7_run : pieceOk Tryz.prog [] k7 = true := by decide +kernel
theorem k16_run : pieceOk Tryz.prog [] k16 = true := by decide +kernel
theorem k10_run : pieceOk Tryz.prog [] k10 = true := by decide +kernel
end Go.Proofs.YtocplhpfndgagaaGreatDoor
