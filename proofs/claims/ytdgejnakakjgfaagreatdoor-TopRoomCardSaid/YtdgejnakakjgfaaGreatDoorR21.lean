/- What link 1 says: runs. What link 2 says: runs. -/
import Derived.Test.YtdgejnakakjgfaaGreatDoorR17
set_option linter.unusedVariables false
set_option linter.unusedSimpArgs false
set_option maxRecDepth 100000
namespace Go.Proofs.YtdgejnakakjgfaaGreatDoor
section
namespace SE
open Go.RowKit
set_option maxHeartbeats 0
theorem accept_1:sayR joinA 115 (acceptM 1)=true:=by decide +kernel
theorem release_1:sayR joinT 117 (releaseM 1)=true:=by decide +kernel
theorem mode_1:sayR joinT 118 (modeM 1)=true:=by decide +kernel
theorem point_1:sayR joinT 118 (pointM 1)=true:=by decide +kernel
end SE
end
section
namespace SE
open Go.RowKit
set_option maxHeartbeats 0
theorem hello_2:sayR joinT 69 (helloM 2)=true:=by decide +kernel
theorem prove_2:sayR joinP 70 (proveM 2)=true:=by decide +kernel
theorem reject_2:sayR joinT 67 (rejectM 2)=true:=by decide +kernel
theorem beat_2:sayR joinT 111 (beatM 2)=true:=by decide +kernel
end SE
end
end Go.Proofs.YtdgejnakakjgfaaGreatDoor
