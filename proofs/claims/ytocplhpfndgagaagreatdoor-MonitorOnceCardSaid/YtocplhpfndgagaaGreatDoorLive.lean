/- All pieces are as they say. -/
import Derived.Test.YtocplhpfndgagaaGreatDoorLive0
import Derived.Test.YtocplhpfndgagaaGreatDoorLive1
import Derived.Test.YtocplhpfndgagaaGreatDoorLive2
import Derived.Test.YtocplhpfndgagaaGreatDoorLive3
namespace Go.Proofs.YtocplhpfndgagaaGreatDoor
open Go.Ev
theorem k0_ok : KOk Tryz.prog k0 := piece mixed (l := []) known_nil k0_run
theorem k1_ok : KOk Tryz.prog k1 := piece mixed (l := []) known_nil k1_run
theorem k2_ok : KOk Tryz.prog k2 := piece mixed (l := []) known_nil k2_run
theorem k3_ok : KOk Tryz.prog k3 := piece mixed (l := []) known_nil k3_run
theorem k4_ok : KOk Tryz.prog k4 := piece mixed (l := []) known_nil k4_run
theorem k5_ok : KOk Tryz.prog k5 := piece mixed (l := []) known_nil k5_run
theorem k6_ok : KOk Tryz.prog k6 := piece mixed (l := []) known_nil k6_run
theorem k7_ok : KOk Tryz.prog k7 := piece mixed (l := []) known_nil k7_run
theorem k8_ok : KOk Tryz.prog k8 := piece mixed (l := []) known_nil k8_run
theorem k9_ok : KOk Tryz.prog k9 := piece mixed (l := []) known_nil k9_run
theorem k10_ok : KOk Tryz.prog k10 := piece mixed (l := []) known_nil k10_run
theorem k11_ok : KOk Tryz.prog k11 := piece mixed (l := []) known_nil k11_run
theorem k12_ok : KOk Tryz.prog k12 := piece mixed (l := []) known_nil k12_run
theorem k13_ok : KOk Tryz.prog k13 := piece mixed (l := []) known_nil k13_run
theorem k14_ok : KOk Tryz.prog k14 := piece mixed (l := []) known_nil k14_run
theorem k15_ok : KOk Tryz.prog k15 := piece mixed (l := []) known_nil k15_run
theorem k16_ok : KOk Tryz.prog k16 := piece mixed (l := []) known_nil k16_run
theorem k17_ok : KOk Tryz.prog k17 := piece mixed (l := []) known_nil k17_run
theorem k18_ok : KOk Tryz.prog k18 := piece mixed (l := []) known_nil k18_run
theorem k19_ok : KOk Tryz.prog k19 := piece mixed (l := []) known_nil k19_run
theorem k20_ok : KOk Tryz.prog k20 := piece mixed (l := []) known_nil k20_run
theorem k21_ok : KOk Tryz.prog k21 := piece mixed (l := []) known_nil k21_run
theorem k22_ok : KOk Tryz.prog k22 := piece mixed (l := []) known_nil k22_run
theorem k23_ok : KOk Tryz.prog k23 := piece mixed (l := []) known_nil k23_run
theorem k24_ok : KOk Tryz.prog k24 := piece mixed (l := []) known_nil k24_run
theorem k25_ok : KOk Tryz.prog k25 := piece mixed (l := []) known_nil k25_run
theorem k26_ok : KOk Tryz.prog k26 := piece mixed (l := []) known_nil k26_run
theorem k27_ok : KOk Tryz.prog k27 := piece mixed (l := []) known_nil k27_run
theorem k28_ok : KOk Tryz.prog k28 := piece mixed (l := []) known_nil k28_run
theorem k29_ok : KOk Tryz.prog k29 := piece mixed (l := []) known_nil k29_run
theorem k30_ok : KOk Tryz.prog k30 := piece mixed (l := []) known_nil k30_run
theorem k31_ok : KOk Tryz.prog k31 := piece mixed (l := []) known_nil k31_run
theorem k32_ok : KOk Tryz.prog k32 := piece mixed (l := []) known_nil k32_run
theorem k33_ok : KOk Tryz.prog k33 := piece mixed (l := []) known_nil k33_run
theorem k34_ok : KOk Tryz.prog k34 := piece mixed (l := []) known_nil k34_run
theorem k35_ok : KOk Tryz.prog k35 := piece mixed (l := []) known_nil k35_run
theorem k36_ok : KOk Tryz.prog k36 := piece mixed (l := []) known_nil k36_run
theorem k37_ok : KOk Tryz.prog k37 := piece mixed (l := []) known_nil k37_run
theorem k38_ok : KOk Tryz.prog k38 := piece mixed (l := []) known_nil k38_run
theorem k39_ok : KOk Tryz.prog k39 := piece mixed (l := []) known_nil k39_run
theorem k40_ok : KOk Tryz.prog k40 := piece mixed (l := []) known_nil k40_run
theorem k41_ok : KOk Tryz.prog k41 := piece mixed (l := []) known_nil k41_run
theorem k42_ok : KOk Tryz.prog k42 := piece mixed (l := []) known_nil k42_run
theorem k43_ok : KOk Tryz.prog k43 := piece mixed (l := []) known_nil k43_run
theorem k44_ok : KOk Tryz.prog k44 := piece mixed (l := []) known_nil k44_run
theorem k45_ok : KOk Tryz.prog k45 := piece mixed (l := []) known_nil k45_run
theorem k46_ok : KOk Tryz.prog k46 := piece mixed (l := []) known_nil k46_run
theorem k47_ok : KOk Tryz.prog k47 := piece mixed (l := []) known_nil k47_run
theorem k48_ok : KOk Tryz.prog k48 := piece mixed (l := []) known_nil k48_run
theorem k49_ok : KOk Tryz.prog k49 := piece mixed (l := []) known_nil k49_run
theorem k50_ok : KOk Tryz.prog k50 := piece mixed (l := []) known_nil k50_run
theorem k51_ok : KOk Tryz.prog k51 := piece mixed (l := []) known_nil k51_run
theorem k52_ok : KOk Tryz.prog k52 := piece mixed (l := [k0, k1, k2, k3, k4, k5, k6, k7, k8, k9, k10, k11, k12, k13, k14, k15, k16, k17, k18, k19, k20, k21, k22, k23, k24, k25, k26, k27, k28, k29, k30, k31, k32, k33, k34, k35, k36, k37, k38, k39, k40, k41, k42, k43, k44, k45, k46, k47, k48, k49, k50, k51]) (known_cons k0_ok (known_cons k1_ok (known_cons k2_ok (known_cons k3_ok (known_cons k4_ok (known_cons k5_ok (known_cons k6_ok (known_cons k7_ok (known_cons k8_ok (known_cons k9_ok (known_cons k10_ok (known_cons k11_ok (known_cons k12_ok (known_cons k13_ok (known_cons k14_ok (known_cons k15_ok (known_cons k16_ok (known_cons k17_ok (known_cons k18_ok (known_cons k19_ok (known_cons k20_ok (known_cons k21_ok (known_cons k22_ok (known_cons k23_ok (known_cons k24_ok (known_cons k25_ok (known_cons k26_ok (known_cons k27_ok (known_cons k28_ok (known_cons k29_ok (known_cons k30_ok (known_cons k31_ok (known_cons k32_ok (known_cons k33_ok (known_cons k34_ok (known_cons k35_ok (known_cons k36_ok (known_cons k37_ok (known_cons k38_ok (known_cons k39_ok (known_cons k40_ok (known_cons k41_ok (known_cons k42_ok (known_cons k43_ok (known_cons k44_ok (known_cons k45_ok (known_cons k46_ok (known_cons k47_ok (known_cons k48_ok (known_cons k49_ok (known_cons k50_ok (known_cons k51_ok known_nil)))))))))))))))))))))))))))))))))))))))))))))))))))) k52_run
theorem k53_ok : KOk Tryz.prog k53 := piece mixed (l := []) known_nil k53_run
theorem k54_ok : KOk Tryz.prog k54 := piece mixed (l := []) known_nil k54_run
theorem k55_ok : KOk Tryz.prog k55 := piece mixed (l := []) known_nil k55_run
theorem k56_ok : KOk Tryz.prog k56 := piece mixed (l := [k53, k54, k55]) (known_cons k53_ok (known_cons k54_ok (known_cons k55_ok known_nil))) k56_run
theorem k57_ok : KOk Tryz.prog k57 := piece mixed (l := []) known_nil k57_run
theorem k58_ok : KOk Tryz.prog k58 := piece mixed (l := [k57]) (known_cons k57_ok known_nil) k58_run
theorem k59_ok : KOk Tryz.prog k59 := piece mixed (l := [k58]) (known_cons k58_ok known_nil) k59_run
theorem k60_ok : KOk Tryz.prog k60 := piece mixed (l := []) known_nil k60_run
theorem k61_ok : KOk Tryz.prog k61 := piece mixed (l := []) known_nil k61_run
theorem k62_ok : KOk Tryz.prog k62 := piece mixed (l := []) known_nil k62_run
theorem k63_ok : KOk Tryz.prog k63 := piece mixed (l := []) known_nil k63_run
theorem k64_ok : KOk Tryz.prog k64 := piece mixed (l := []) known_nil k64_run
theorem k65_ok : KOk Tryz.prog k65 := piece mixed (l := []) known_nil k65_run
theorem k66_ok : KOk Tryz.prog k66 := piece mixed (l := []) known_nil k66_run
theorem k67_ok : KOk Tryz.prog k67 := piece mixed (l := [k66]) (known_cons k66_ok known_nil) k67_run
theorem k68_ok : KOk Tryz.prog k68 := piece mixed (l := [k67]) (known_cons k67_ok known_nil) k68_run
theorem k69_ok : KOk Tryz.prog k69 := piece mixed (l := []) known_nil k69_run
theorem k70_ok : KOk Tryz.prog k70 := piece mixed (l := []) known_nil k70_run
theorem k71_ok : KOk Tryz.prog k71 := piece mixed (l := []) known_nil k71_run
theorem k72_ok : KOk Tryz.prog k72 := piece mixed (l := [k59, k60, k61, k62, k63, k64, k65, k68, k69, k70, k71]) (known_cons k59_ok (known_cons k60_ok (known_cons k61_ok (known_cons k62_ok (known_cons k63_ok (known_cons k64_ok (known_cons k65_ok (known_cons k68_ok (known_cons k69_ok (known_cons k70_ok (known_cons k71_ok known_nil))))))))))) k72_run
theorem k73_ok : KOk Tryz.prog k73 := piece mixed (l := [k52, k56, k72]) (known_cons k52_ok (known_cons k56_ok (known_cons k72_ok known_nil))) k73_run
end Go.Proofs.YtocplhpfndgagaaGreatDoor
