import Derived.Test.YtjhcgnmibnjocaaGreatGV
import Derived.Test.YtjhcgnmibnjocaaGreatWA1
import Derived.Test.YtjhcgnmibnjocaaGreatWA3
/-! The law's step: any. -/
namespace Go.Proofs.YtjhcgnmibnjocaaGreat
open Go.RowKit Go.Maps
set_option linter.unusedVariables false
set_option linter.unusedSimpArgs false
set_option maxRecDepth 100000 in
set_option maxHeartbeats 40000000 in
theorem arms : Arm (fun kd => True) := by
 unfold Arm
 intro id k j g pm p w W3 S T r A8 Am B C A1 A2 B2 uA n8 c8 cm d f0 c1 c2 d2 uc L kd f v t m Q y1 y2 y3 y4 y6
 iterate 278 intro _
 intro hk hk0 hPin b1 b3 b4 hl1 hl2 hl3 hv1 hv2 hv3 hU hun hm1 hm2 hm3 hE hEn hi hf hcpx hpw hpo hTp hP3 hO3 hQ hK
 by_cases k0 : kd = 0
 ·exact arm0 hk hk0 hPin b1 b3 b4 hl1 hl2 hl3 hv1 hv2 hv3 hU hun hm1 hm2 hm3 hE hEn hi hf hcpx hpw hpo hTp hP3 hO3 hQ k0
 by_cases k1 : kd = 1
 ·exact arm1 hk hk0 hPin b1 b3 b4 hl1 hl2 hl3 hv1 hv2 hv3 hU hun hm1 hm2 hm3 hE hEn hi hf hcpx hpw hpo hTp hP3 hO3 hQ k1
 by_cases k2 : kd = 2
 ·exact arm2 hk hk0 hPin b1 b3 b4 hl1 hl2 hl3 hv1 hv2 hv3 hU hun hm1 hm2 hm3 hE hEn hi hf hcpx hpw hpo hTp hP3 hO3 hQ k2
 by_cases k3 : kd = 3
 ·exact arm3 hk hk0 hPin b1 b3 b4 hl1 hl2 hl3 hv1 hv2 hv3 hU hun hm1 hm2 hm3 hE hEn hi hf hcpx hpw hpo hTp hP3 hO3 hQ k3
 by_cases k4 : kd = 4
 ·exact arm4 hk hk0 hPin b1 b3 b4 hl1 hl2 hl3 hv1 hv2 hv3 hU hun hm1 hm2 hm3 hE hEn hi hf hcpx hpw hpo hTp hP3 hO3 hQ k4
 by_cases k5 : kd = 5
 ·exact arm5 hk hk0 hPin b1 b3 b4 hl1 hl2 hl3 hv1 hv2 hv3 hU hun hm1 hm2 hm3 hE hEn hi hf hcpx hpw hpo hTp hP3 hO3 hQ k5
 exact armd hk hk0 hPin b1 b3 b4 hl1 hl2 hl3 hv1 hv2 hv3 hU hun hm1 hm2 hm3 hE hEn hi hf hcpx hpw hpo hTp hP3 hO3 hQ ⟨k0, k1, k2, k3, k4, k5⟩
end Go.Proofs.YtjhcgnmibnjocaaGreat
