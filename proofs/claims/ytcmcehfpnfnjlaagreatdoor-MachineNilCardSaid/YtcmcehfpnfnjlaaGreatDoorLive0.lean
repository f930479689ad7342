/- The runs of some of the pieces. -/
import Derived.Test.YtcmcehfpnfnjlaaGreatDoorLiveDefs
namespace Go.Proofs.YtcmcehfpnfnjlaaGreatDoor
open Go.Ev
set_option maxRecDepth 100000
set_option maxHeartbeats 4000000
theorem k62_run : pieceOk Tryz.prog [k36, k37, k40, k41, k42, k50, k51, k52, k53, k58, k61] k62 = true := by decide +kernel
theorem k60_run : pieceOk Tryz.prog [] k60 = true := by decide +kernel
theorem k53_run : pieceOk Tryz.prog [] k53 = true := by decide +kernel
theorem k38_run : pieceOk Tryz.prog [] k38 = true := by decide +kernel
theorem k43_run : pieceOk Tryz.prog [] k43 = true := by decide +kernel
theorem k51_run : pieceOk Tryz.prog [] k51 = true := by decide +kernel
theorem k57_run : pieceOk Tryz.prog [] k57 = true := by decide +kernel
theorem k67_run : pieceOk Tryz.prog [] k67 = true := by decide +kernel
theorem k73_run : pieceOk Tryz.prog [] k73 = true := by decide +kernel
theorem k78_run : pieceOk Tryz.prog [k72, k73, k76, k77] k78 = true := by decide +kernel
theorem k77_run : pieceOk Tryz.prog [] k77 = true := by decide +kernel
theorem k72_run : pieceOk Tryz.prog [k71] k72 = true := by decide +kernel
theorem k6_run : pieceOk Tryz.prog [] k6 = true := by decide +kernel
theorem k1_run : pieceOk Tryz.prog [] k1 = true := by decide +kernel
theorem k2_run : pieceOk Tryz.prog [] k2 = true := by decide +kernel
theorem k5_run : pieceOk Tryz.prog [] k5 = true := by decide +kernel
theorem k18_run : pieceOk Tryz.prog [] k18 = true := by decide +kernel
theorem k24_run : pieceOk Tryz.prog [] k24 = true := by decide +kernel
theorem k27_run : pieceOk Tryz.prog [] k27 = true := by decide +kernel
theorem k7_run : pieceOk Tryz.prog [] k7 = true := by decide +kernel
theorem k9_run : pieceOk Tryz.prog [] k9 = true := by decide +kernel
end Go.Proofs.YtcmcehfpnfnjlaaGreatDoor
