/- What link 3 says: runs. What link 3 says: runs. -/
import Derived.Test.YtdgejnakakjgfaaGreatDoorR17
set_option linter.unusedVariables false
set_option linter.unusedSimpArgs false
set_option maxRecDepth 100000
namespace Go.Proofs.YtdgejnakakjgfaaGreatDoor
section
namespace SE
open Go.RowKit
set_option maxHeartbeats 0
theorem bye_3:sayR joinT 112 (byeM 3)=true:=by decide +kernel
theorem ask_3:sayR joinT 113 (askM 3)=true:=by decide +kernel
theorem deny_3:sayR joinT 116 (denyM 3)=true:=by decide +kernel
end SE
end
section
namespace SE
open Go.RowKit
set_option maxHeartbeats 0
theorem offer0_3:sayR joinT 114 (offer0M 3)=true:=by decide +kernel
theorem offer1_3:sayR joinT 114 (offer1M 3)=true:=by decide +kernel
theorem offer2_3:sayR joinT 114 (offer2M 3)=true:=by decide +kernel
theorem offer3_3:sayR joinT 114 (offer3M 3)=true:=by decide +kernel
theorem offer4_3:sayR joinT 114 (offer4M 3)=true:=by decide +kernel
end SE
end
end Go.Proofs.YtdgejnakakjgfaaGreatDoor
