/-
  A PART OF A LONG RUN of the author's own evaluator (texts EvA to EvZ, EvMemo, proved sound): all the calls that were run by themselves. No condition.
-/
import Derived.Test.YtcnfmcbmephdfaaGreatDoorPsW1
import Derived.Test.YtcnfmcbmephdfaaGreatDoorPsW2
import Derived.Test.YtcnfmcbmephdfaaGreatDoorPsW3
import Derived.Test.YtcnfmcbmephdfaaGreatDoorPsW4
import Derived.Test.YtcnfmcbmephdfaaGreatDoorPsW5
import Derived.Test.YtcnfmcbmephdfaaGreatDoorPsW6
import Derived.Test.YtcnfmcbmephdfaaGreatDoorPsW7
import Derived.Test.YtcnfmcbmephdfaaGreatDoorPsW8
import Derived.Test.YtcnfmcbmephdfaaGreatDoorPsW9
import Derived.Test.YtcnfmcbmephdfaaGreatDoorPsW10
import Derived.Test.YtcnfmcbmephdfaaGreatDoorPsW11
import Derived.Test.YtcnfmcbmephdfaaGreatDoorPsW12
namespace Go.Proofs.YtcnfmcbmephdfaaGreatDoor.minePassed
open Go.Proofs.YtcnfmcbmephdfaaGreatDoor.Ev
def tab : List Entry := [e1, e2, e3, e4, e5, e6, e7, e8, e9, e10, e11, e12, e13, e14, e15, e16, e17, e18, e19, e20, e21, e22, e23, e24, e25, e26, e27, e28, e29, e30, e31, e32, e33, e34, e35, e36, e37, e38, e39, e40, e41, e42, e43, e44, e45, e46, e47, e48, e49, e50, e51, e52, e53, e54, e55, e56, e57, e58, e59, e60, e61, e62, e63, e64, e65, e66, e67, e68, e69, e70, e71, e72, e73, e74, e75, e76, e77, e78, e79, e80, e81, e82, e83, e84, e85, e86, e87, e88, e89, e90, e91, e92, e93, e94, e95, e96, e97, e98, e99, e100, e101, e102, e103, e104, e105, e106, e107, e108, e109, e110, e111, e112, e113, e114, e115, e116, e117, e118, e119, e120, e121, e122, e123, e124, e125, e126, e127, e128, e129, e130, e131, e132, e133, e134, e135, e136, e137, e138, e139, e140, e141, e142, e143, e144, e145, e146, e147, e148, e149, e150, e151, e152, e153, e154, e155, e156, e157, e158, e159, e160, e161, e162]
set_option maxRecDepth 100000 in
theorem tab_ok (E : Env) : ∀ e ∈ tab, EntryOk Tryz.prog (atTab E) e :=
  tab_cons (e1_ok E) (
  tab_cons (e2_ok E) (
  tab_cons (e3_ok E) (
  tab_cons (e4_ok E) (
  tab_cons (e5_ok E) (
  tab_cons (e6_ok E) (
  tab_cons (e7_ok E) (
  tab_cons (e8_ok E) (
  tab_cons (e9_ok E) (
  tab_cons (e10_ok E) (
  tab_cons (e11_ok E) (
  tab_cons (e12_ok E) (
  tab_cons (e13_ok E) (
  tab_cons (e14_ok E) (
  tab_cons (e15_ok E) (
  tab_cons (e16_ok E) (
  tab_cons (e17_ok E) (
  tab_cons (e18_ok E) (
  tab_cons (e19_ok E) (
  tab_cons (e20_ok E) (
  tab_cons (e21_ok E) (
  tab_cons (e22_ok E) (
  tab_cons (e23_ok E) (
  tab_cons (e24_ok E) (
  tab_cons (e25_ok E) (
  tab_cons (e26_ok E) (
  tab_cons (e27_ok E) (
  tab_cons (e28_ok E) (
  tab_cons (e29_ok E) (
  tab_cons (e30_ok E) (
  tab_cons (e31_ok E) (
  tab_cons (e32_ok E) (
  tab_cons (e33_ok E) (
  tab_cons (e34_ok E) (
  tab_cons (e35_ok E) (
  tab_cons (e36_ok E) (
  tab_cons (e37_ok E) (
  tab_cons (e38_ok E) (
  tab_cons (e39_ok E) (
  tab_cons (e40_ok E) (
  tab_cons (e41_ok E) (
  tab_cons (e42_ok E) (
  tab_cons (e43_ok E) (
  tab_cons (e44_ok E) (
  tab_cons (e45_ok E) (
  tab_cons (e46_ok E) (
  tab_cons (e47_ok E) (
  tab_cons (e48_ok E) (
  tab_cons (e49_ok E) (
  tab_cons (e50_ok E) (
  tab_cons (e51_ok E) (
  tab_cons (e52_ok E) (
  tab_cons (e53_ok E) (
  tab_cons (e54_ok E) (
  tab_cons (e55_ok E) (
  tab_cons (e56_ok E) (
  tab_cons (e57_ok E) (
  tab_cons (e58_ok E) (
  tab_cons (e59_ok E) (
  tab_cons (e60_ok E) (
  tab_cons (e61_ok E) (
  tab_cons (e62_ok E) (
  tab_cons (e63_ok E) (
  tab_cons (e64_ok E) (
  tab_cons (e65_ok E) (
  tab_cons (e66_ok E) (
  tab_cons (e67_ok E) (
  tab_cons (e68_ok E) (
  tab_cons (e69_ok E) (
  tab_cons (e70_ok E) (
  tab_cons (e71_ok E) (
  tab_cons (e72_ok E) (
  tab_cons (e73_ok E) (
  tab_cons (e74_ok E) (
  tab_cons (e75_ok E) (
  tab_cons (e76_ok E) (
  tab_cons (e77_ok E) (
  tab_cons (e78_ok E) (
  tab_cons (e79_ok E) (
  tab_cons (e80_ok E) (
  tab_cons (e81_ok E) (
  tab_cons (e82_ok E) (
  tab_cons (e83_ok E) (
  tab_cons (e84_ok E) (
  tab_cons (e85_ok E) (
  tab_cons (e86_ok E) (
  tab_cons (e87_ok E) (
  tab_cons (e88_ok E) (
  tab_cons (e89_ok E) (
  tab_cons (e90_ok E) (
  tab_cons (e91_ok E) (
  tab_cons (e92_ok E) (
  tab_cons (e93_ok E) (
  tab_cons (e94_ok E) (
  tab_cons (e95_ok E) (
  tab_cons (e96_ok E) (
  tab_cons (e97_ok E) (
  tab_cons (e98_ok E) (
  tab_cons (e99_ok E) (
  tab_cons (e100_ok E) (
  tab_cons (e101_ok E) (
  tab_cons (e102_ok E) (
  tab_cons (e103_ok E) (
  tab_cons (e104_ok E) (
  tab_cons (e105_ok E) (
  tab_cons (e106_ok E) (
  tab_cons (e107_ok E) (
  tab_cons (e108_ok E) (
  tab_cons (e109_ok E) (
  tab_cons (e110_ok E) (
  tab_cons (e111_ok E) (
  tab_cons (e112_ok E) (
  tab_cons (e113_ok E) (
  tab_cons (e114_ok E) (
  tab_cons (e115_ok E) (
  tab_cons (e116_ok E) (
  tab_cons (e117_ok E) (
  tab_cons (e118_ok E) (
  tab_cons (e119_ok E) (
  tab_cons (e120_ok E) (
  tab_cons (e121_ok E) (
  tab_cons (e122_ok E) (
  tab_cons (e123_ok E) (
  tab_cons (e124_ok E) (
  tab_cons (e125_ok E) (
  tab_cons (e126_ok E) (
  tab_cons (e127_ok E) (
  tab_cons (e128_ok E) (
  tab_cons (e129_ok E) (
  tab_cons (e130_ok E) (
  tab_cons (e131_ok E) (
  tab_cons (e132_ok E) (
  tab_cons (e133_ok E) (
  tab_cons (e134_ok E) (
  tab_cons (e135_ok E) (
  tab_cons (e136_ok E) (
  tab_cons (e137_ok E) (
  tab_cons (e138_ok E) (
  tab_cons (e139_ok E) (
  tab_cons (e140_ok E) (
  tab_cons (e141_ok E) (
  tab_cons (e142_ok E) (
  tab_cons (e143_ok E) (
  tab_cons (e144_ok E) (
  tab_cons (e145_ok E) (
  tab_cons (e146_ok E) (
  tab_cons (e147_ok E) (
  tab_cons (e148_ok E) (
  tab_cons (e149_ok E) (
  tab_cons (e150_ok E) (
  tab_cons (e151_ok E) (
  tab_cons (e152_ok E) (
  tab_cons (e153_ok E) (
  tab_cons (e154_ok E) (
  tab_cons (e155_ok E) (
  tab_cons (e156_ok E) (
  tab_cons (e157_ok E) (
  tab_cons (e158_ok E) (
  tab_cons (e159_ok E) (
  tab_cons (e160_ok E) (
  tab_cons (e161_ok E) (
  tab_cons (e162_ok E) (
  tab0_ok E))))))))))))))))))))))))))))))))))))))))))))))))))))))))))))))))))))))))))))))))))))))))))))))))))))))))))))))))))))))))))))))))))))))))))))))))))))))))))))))))))
end Go.Proofs.YtcnfmcbmephdfaaGreatDoor.minePassed
