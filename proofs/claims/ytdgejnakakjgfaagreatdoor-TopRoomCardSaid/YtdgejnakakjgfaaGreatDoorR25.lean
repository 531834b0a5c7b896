/- What link 3 says: runs. Who waits: runs. -/
import Derived.Test.YtdgejnakakjgfaaGreatDoorR17
set_option linter.unusedVariables false
set_option linter.unusedSimpArgs false
set_option maxRecDepth 100000
namespace Go.Proofs.YtdgejnakakjgfaaGreatDoor
section
namespace SE
open Go.RowKit
set_option maxHeartbeats 0
theorem accept_3:sayR joinA 115 (acceptM 3)=true:=by decide +kernel
theorem release_3:sayR joinT 117 (releaseM 3)=true:=by decide +kernel
theorem mode_3:sayR joinT 118 (modeM 3)=true:=by decide +kernel
theorem point_3:sayR joinT 118 (pointM 3)=true:=by decide +kernel
end SE
end
section
namespace SE
open Go.RowKit
set_option maxHeartbeats 0
theorem drop_a:allN dropR 0 2=true:=by decide +kernel
theorem drop_b:allN dropR 2 2=true:=by decide +kernel
theorem drop_c:dropR 4=true:=by decide +kernel
theorem push_a:pushR 1=true:=by decide +kernel
theorem push_b:pushR 2=true:=by decide +kernel
theorem push_c:pushR 3=true:=by decide +kernel
theorem head_n:smN 1000 215 headO=true:=by decide +kernel
theorem head_a:smR 1000 tb0 215 headO seqA=true:=by decide +kernel
theorem head_b:smR 1000 tb0 215 headO seqB=true:=by decide +kernel
end SE
end
end Go.Proofs.YtdgejnakakjgfaaGreatDoor
