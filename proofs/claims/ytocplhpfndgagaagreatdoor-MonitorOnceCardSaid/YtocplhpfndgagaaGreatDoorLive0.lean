/- The runs of some of the pieces. -/
import Derived.Test.YtocplhpfndgagaaGreatDoorLiveDefs
namespace Go.Proofs.YtocplhpfndgagaaGreatDoor
open Go.Ev
set_option maxRecDepth 100000
set_option maxHeartbeats 4000000
theorem k52_run : pieceOk Tryz.prog [k0, k1, k2, k3, k4, k5, k6, k7, k8, k9, k10, k11, k12, k13, k14, k15, k16, k17, k18, k19, k20, k21, k22, k23, k24, k25, k26, k27, k28, k29, k30, k31, k32, k33, k34, k35, k36, k37, k38, k39, k40, k41, k42, k43, k44, k45, k46, k47, k48, k49, k50, k51] k52 = true := by decide +kernel
theorem k56_run : pieceOk Tryz.prog [k53, k54, k55] k56 = true := by decide +kernel
theorem k67_run : pieceOk Tryz.prog [k66] k67 = true := by decide +kernel
theorem k61_run : pieceOk Tryz.prog [] k61 = true := by decide +kernel
theorem k68_run : pieceOk Tryz.prog [k67] k68 = true := by decide +kernel
theorem k6_run : pieceOk Tryz.prog [] k6 = true := by decide +kernel
theorem k23_run : pieceOk Tryz.prog [] k23 = true := by decide +kernel
theorem k4_run : pieceOk Tryz.prog [] k4 = true := by decide +kernel
theorem k17_run : pieceOk Tryz.prog [] k17 = true := by decide +kernel
theorem k25_run : pieceOk Tryz.prog [] k25 = true := by decide +kernel
theorem k33_run : pieceOk Tryz.prog [] k33 = true := by decide +kernel
theorem k38_run : pieceOk Tryz.prog [] k38 = true := by decide +kernel
theorem k44_run : pieceOk Tryz.prog [] k44 = true := by decide +kernel
theorem k19_run : pieceOk Tryz.prog [] k19 = true := by decide +kernel
theorem k46_run : pieceOk Tryz.prog [] k46 = true := by decide +kernel
theorem k24_run : pieceOk Tryz.prog [] k24 = true := by decide +kernel
theorem k47_run : pieceOk Tryz.prog [] k47 = true := by decide +kernel
theorem k3_run : pieceOk Tryz.prog [] k3 = true := by decide +kernel
theorem k32_run : pieceOk Tryz.prog [] k32 = true := by decide +kernel
end Go.Proofs.YtocplhpfndgagaaGreatDoor
