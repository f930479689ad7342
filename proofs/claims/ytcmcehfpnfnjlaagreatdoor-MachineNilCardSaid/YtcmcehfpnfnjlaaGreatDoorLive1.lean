/- The runs of some of the pieces. -/
import Derived.Test.YtcmcehfpnfnjlaaGreatDoorLiveDefs
namespace Go.Proofs.YtcmcehfpnfnjlaaGreatDoor
open Go.Ev
set_option maxRecDepth 100000
set_option maxHeartbeats 4000000
theorem k80_run : pieceOk Tryz.prog [k31, k34, k62, k79] k80 = true := by decide +kernel
theorem k76_run : pieceOk Tryz.prog [k74, k75] k76 = true := by decide +kernel
theorem k35_run : pieceOk Tryz.prog [] k35 = true := by decide +kernel
theorem k41_run : pieceOk Tryz.prog [] k41 = true := by decide +kernel
theorem k46_run : pieceOk Tryz.prog [] k46 = true := by decide +kernel
theorem k54_run : pieceOk Tryz.prog [] k54 = true := by decide +kernel
theorem k65_run : pieceOk Tryz.prog [] k65 = true := by decide +kernel
theorem k70_run : pieceOk Tryz.prog [] k70 = true := by decide +kernel
theorem k75_run : pieceOk Tryz.prog [] k75 = true := by decide +kernel
theorem k58_run : pieceOk Tryz.prog [k56, k57] k58 = true := by decide +kernel
theorem k44_run : pieceOk Tryz.prog [k43] k44 = true := by decide +kernel
theorem k68_run : pieceOk Tryz.prog [k66, k67] k68 = true := by decide +kernel
theorem k33_run : pieceOk Tryz.prog [k32] k33 = true := by decide +kernel
theorem k12_run : pieceOk Tryz.prog [] k12 = true := by decide +kernel
theorem k21_run : pieceOk Tryz.prog [] k21 = true := by decide +kernel
theorem k29_run : pieceOk Tryz.prog [] k29 = true := by decide +kernel
theorem k8_run : pieceOk Tryz.prog [] k8 = true := by decide +kernel
theorem k14_run : pieceOk Tryz.prog [] k14 = true := by decide +kernel
theorem k10_run : pieceOk Tryz.prog [] k10 = true := by decide +kernel
end Go.Proofs.YtcmcehfpnfnjlaaGreatDoor
