/- Sealed bodies: runs. -/
import Derived.Test.YtdgejnakakjgfaaGreatDoorR12
set_option linter.unusedVariables false
set_option linter.unusedSimpArgs false
set_option maxRecDepth 100000
namespace Go.Proofs.YtdgejnakakjgfaaGreatDoor
section
namespace SE
open Go.RowKit
set_option maxHeartbeats 0
theorem open_c2:allN openR 21 3=true:=by decide +kernel
theorem open_d:allN openR 24 4=true:=by decide +kernel
end SE
end
end Go.Proofs.YtdgejnakakjgfaaGreatDoor
