/- What link 1 says: runs. What link 1 says: runs. -/
import Derived.Test.YtdgejnakakjgfaaGreatDoorR17
set_option linter.unusedVariables false
set_option linter.unusedSimpArgs false
set_option maxRecDepth 100000
namespace Go.Proofs.YtdgejnakakjgfaaGreatDoor
section
namespace SE
open Go.RowKit
set_option maxHeartbeats 0
theorem bye_1:sayR joinT 112 (byeM 1)=true:=by decide +kernel
theorem ask_1:sayR joinT 113 (askM 1)=true:=by decide +kernel
theorem deny_1:sayR joinT 116 (denyM 1)=true:=by decide +kernel
end SE
end
section
namespace SE
open Go.RowKit
set_option maxHeartbeats 0
theorem offer0_1:sayR joinT 114 (offer0M 1)=true:=by decide +kernel
theorem offer1_1:sayR joinT 114 (offer1M 1)=true:=by decide +kernel
theorem offer2_1:sayR joinT 114 (offer2M 1)=true:=by decide +kernel
theorem offer3_1:sayR joinT 114 (offer3M 1)=true:=by decide +kernel
theorem offer4_1:sayR joinT 114 (offer4M 1)=true:=by decide +kernel
end SE
end
end Go.Proofs.YtdgejnakakjgfaaGreatDoor
