/- The runs of some of the pieces. -/
import Derived.Test.YtocplhpfndgagaaGreatDoorLiveDefs
namespace Go.Proofs.YtocplhpfndgagaaGreatDoor
open Go.Ev
set_option maxRecDepth 100000
set_option maxHeartbeats 4000000
theorem k60_run : pieceOk Tryz.prog [] k60 = true := by decide +kernel
theorem k65_run : pieceOk Tryz.prog [] k65 = true := by decide +kernel
theorem k66_run : pieceOk Tryz.prog [] k66 = true := by decide +kernel
theorem k64_run : pieceOk Tryz.prog [] k64 = true := by decide +kernel
theorem k63_run : pieceOk Tryz.prog [] k63 = true := by decide +kernel
theorem k73_run : pieceOk Tryz.prog [k52, k56, k72] k73 = true := by decide +kernel
theorem k29_run : pieceOk Tryz.prog [] k29 = true := by decide +kernel
theorem k5_run : pieceOk Tryz.prog [] k5 = true := by decide +kernel
theorem k18_run : pieceOk Tryz.prog [] k18 = true := by decide +kernel
theorem k26_run : pieceOk Tryz.prog [] k26 = true := by decide +kernel
theorem k34_run : pieceOk Tryz.prog [] k34 = true := by decide +kernel
theorem k39_run : pieceOk Tryz.prog [] k39 = true := by decide +kernel
theorem k45_run : pieceOk Tryz.prog [] k45 = true := by decide +kernel
theorem k28_run : pieceOk Tryz.prog [] k28 = true := by decide +kernel
theorem k41_run : pieceOk Tryz.prog [] k41 = true := by decide +kernel
theorem k51_run : pieceOk Tryz.prog [] k51 = true := by decide +kernel
theorem k20_run : pieceOk Tryz.prog [] k20 = true := by decide +kernel
theorem k9_run : pieceOk Tryz.prog [] k9 = true := by decide +kernel
end Go.Proofs.YtocplhpfndgagaaGreatDoor
