/- What link 3 says: runs. What link 3 says: runs. -/
import Derived.Test.YtdgejnakakjgfaaGreatDoorQ20
set_option linter.unusedVariables false
set_option linter.unusedSimpArgs false
set_option maxRecDepth 100000
namespace Go.Proofs.YtdgejnakakjgfaaGreatDoor
section
namespace SE
open Go.RowKit
set_option maxHeartbeats 0
theorem hello_3:sayR joinT 69 (helloM 3)=true:=by decide +kernel
theorem prove_3:sayR joinP 70 (proveM 3)=true:=by decide +kernel
theorem reject_3:sayR joinT 67 (rejectM 3)=true:=by decide +kernel
theorem beat_3:sayR joinT 111 (beatM 3)=true:=by decide +kernel
end SE
end
section
namespace SE
open Go.RowKit
set_option maxHeartbeats 0
theorem bye_3:sayR joinT 112 (byeM 3)=true:=by decide +kernel
theorem ask_3:sayR joinT 113 (askM 3)=true:=by decide +kernel
theorem deny_3:sayR joinT 116 (denyM 3)=true:=by decide +kernel
end SE
end
end Go.Proofs.YtdgejnakakjgfaaGreatDoor
