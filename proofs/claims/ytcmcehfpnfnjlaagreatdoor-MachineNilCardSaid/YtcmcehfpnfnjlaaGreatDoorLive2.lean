/- The runs of some of the pieces. -/
import Derived.Test.YtcmcehfpnfnjlaaGreatDoorLiveDefs
namespace Go.Proofs.YtcmcehfpnfnjlaaGreatDoor
open Go.Ev
set_option maxRecDepth 100000
set_option maxHeartbeats 4000000
theorem k31_run : pieceOk Tryz.prog [k0, k1, k2, k3, k4, k5, k6, k7, k8, k9, k10, k11, k12, k13, k14, k15, k16, k17, k18, k19, k20, k21, k22, k23, k24, k25, k26, k27, k28, k29, k30] k31 = true := by decide +kernel
theorem k48_run : pieceOk Tryz.prog [k46, k47] k48 = true := by decide +kernel
theorem k61_run : pieceOk Tryz.prog [k59, k60] k61 = true := by decide +kernel
theorem k37_run : pieceOk Tryz.prog [] k37 = true := by decide +kernel
theorem k42_run : pieceOk Tryz.prog [] k42 = true := by decide +kernel
theorem k47_run : pieceOk Tryz.prog [] k47 = true := by decide +kernel
theorem k55_run : pieceOk Tryz.prog [] k55 = true := by decide +kernel
theorem k66_run : pieceOk Tryz.prog [] k66 = true := by decide +kernel
theorem k71_run : pieceOk Tryz.prog [] k71 = true := by decide +kernel
theorem k50_run : pieceOk Tryz.prog [k44, k45, k48, k49] k50 = true := by decide +kernel
theorem k49_run : pieceOk Tryz.prog [] k49 = true := by decide +kernel
theorem k64_run : pieceOk Tryz.prog [k63] k64 = true := by decide +kernel
theorem k0_run : pieceOk Tryz.prog [] k0 = true := by decide +kernel
theorem k13_run : pieceOk Tryz.prog [] k13 = true := by decide +kernel
theorem k4_run : pieceOk Tryz.prog [] k4 = true := by decide +kernel
theorem k11_run : pieceOk Tryz.prog [] k11 = true := by decide +kernel
theorem k20_run : pieceOk Tryz.prog [] k20 = true := by decide +kernel
theorem k28_run : pieceOk Tryz.prog [] k28 = true := by decide +kernel
theorem k16_run : pieceOk Tryz.prog [] k16 = true := by decide +kernel
theorem k30_run : pieceOk Tryz.prog [] k30 = true := by decide +kernel
theorem k3_run : pieceOk Tryz.prog [] k3 = true := by decide +kernel
theorem k22_run : pieceOk Tryz.prog [] k22 = true := by decide +kernel
end Go.Proofs.YtcmcehfpnfnjlaaGreatDoor
