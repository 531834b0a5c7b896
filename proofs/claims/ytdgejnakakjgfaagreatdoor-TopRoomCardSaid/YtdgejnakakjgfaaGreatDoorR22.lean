/- What link 2 says: runs. What link 2 says: runs. -/
import Derived.Test.YtdgejnakakjgfaaGreatDoorR17
set_option linter.unusedVariables false
set_option linter.unusedSimpArgs false
set_option maxRecDepth 100000
namespace Go.Proofs.YtdgejnakakjgfaaGreatDoor
section
namespace SE
open Go.RowKit
set_option maxHeartbeats 0
theorem bye_2:sayR joinT 112 (byeM 2)=true:=by decide +kernel
theorem ask_2:sayR joinT 113 (askM 2)=true:=by decide +kernel
theorem deny_2:sayR joinT 116 (denyM 2)=true:=by decide +kernel
end SE
end
section
namespace SE
open Go.RowKit
set_option maxHeartbeats 0
theorem offer0_2:sayR joinT 114 (offer0M 2)=true:=by decide +kernel
theorem offer1_2:sayR joinT 114 (offer1M 2)=true:=by decide +kernel
theorem offer2_2:sayR joinT 114 (offer2M 2)=true:=by decide +kernel
theorem offer3_2:sayR joinT 114 (offer3M 2)=true:=by decide +kernel
theorem offer4_2:sayR joinT 114 (offer4M 2)=true:=by decide +kernel
end SE
end
end Go.Proofs.YtdgejnakakjgfaaGreatDoor
