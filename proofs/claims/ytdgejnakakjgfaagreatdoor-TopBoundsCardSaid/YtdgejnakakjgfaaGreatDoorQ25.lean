/- What link 2 says: runs. What link 2 says: runs. -/
import Derived.Test.YtdgejnakakjgfaaGreatDoorQ20
set_option linter.unusedVariables false
set_option linter.unusedSimpArgs false
set_option maxRecDepth 100000
namespace Go.Proofs.YtdgejnakakjgfaaGreatDoor
section
namespace SE
open Go.RowKit
set_option maxHeartbeats 0
theorem offer0_2:sayR joinT 114 (offer0M 2)=true:=by decide +kernel
theorem offer1_2:sayR joinT 114 (offer1M 2)=true:=by decide +kernel
theorem offer2_2:sayR joinT 114 (offer2M 2)=true:=by decide +kernel
theorem offer3_2:sayR joinT 114 (offer3M 2)=true:=by decide +kernel
theorem offer4_2:sayR joinT 114 (offer4M 2)=true:=by decide +kernel
end SE
end
section
namespace SE
open Go.RowKit
set_option maxHeartbeats 0
theorem accept_2:sayR joinA 115 (acceptM 2)=true:=by decide +kernel
theorem release_2:sayR joinT 117 (releaseM 2)=true:=by decide +kernel
theorem mode_2:sayR joinT 118 (modeM 2)=true:=by decide +kernel
theorem point_2:sayR joinT 118 (pointM 2)=true:=by decide +kernel
end SE
end
end Go.Proofs.YtdgejnakakjgfaaGreatDoor
