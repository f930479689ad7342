/- The runs of some of the pieces. -/
import Derived.Test.YtcmcehfpnfnjlaaGreatDoorLiveDefs
namespace Go.Proofs.YtcmcehfpnfnjlaaGreatDoor
open Go.Ev
set_option maxRecDepth 100000
set_option maxHeartbeats 4000000
theorem k79_run : pieceOk Tryz.prog [k64, k65, k68, k69, k70, k78] k79 = true := by decide +kernel
theorem k59_run : pieceOk Tryz.prog [] k59 = true := by decide +kernel
theorem k56_run : pieceOk Tryz.prog [k54, k55] k56 = true := by decide +kernel
theorem k39_run : pieceOk Tryz.prog [] k39 = true := by decide +kernel
theorem k45_run : pieceOk Tryz.prog [] k45 = true := by decide +kernel
theorem k52_run : pieceOk Tryz.prog [] k52 = true := by decide +kernel
theorem k63_run : pieceOk Tryz.prog [] k63 = true := by decide +kernel
theorem k69_run : pieceOk Tryz.prog [] k69 = true := by decide +kernel
theorem k74_run : pieceOk Tryz.prog [] k74 = true := by decide +kernel
theorem k34_run : pieceOk Tryz.prog [k33] k34 = true := by decide +kernel
theorem k36_run : pieceOk Tryz.prog [k35] k36 = true := by decide +kernel
theorem k40_run : pieceOk Tryz.prog [k38, k39] k40 = true := by decide +kernel
theorem k32_run : pieceOk Tryz.prog [] k32 = true := by decide +kernel
theorem k17_run : pieceOk Tryz.prog [] k17 = true := by decide +kernel
theorem k23_run : pieceOk Tryz.prog [] k23 = true := by decide +kernel
theorem k25_run : pieceOk Tryz.prog [] k25 = true := by decide +kernel
theorem k15_run : pieceOk Tryz.prog [] k15 = true := by decide +kernel
theorem k26_run : pieceOk Tryz.prog [] k26 = true := by decide +kernel
theorem k19_run : pieceOk Tryz.prog [] k19 = true := by decide +kernel
end Go.Proofs.YtcmcehfpnfnjlaaGreatDoor
