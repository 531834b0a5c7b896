/- An item of link 2: runs. -/
import Derived.Test.YtdgejnakakjgfaaGreatDoorR18
set_option linter.unusedVariables false
set_option linter.unusedSimpArgs false
set_option maxRecDepth 100000
namespace Go.Proofs.YtdgejnakakjgfaaGreatDoor
section
namespace SE
open Go.RowKit
set_option maxHeartbeats 0
theorem it1_2:itR1 2=true:=by decide +kernel
theorem itN_2:itR2 2 (takeN 2)=true:=by decide +kernel
theorem itK3_2:itR2 2 (takeK 2 3 (U 0 4))=true:=by decide +kernel
theorem itK4_2:itR2 2 (takeK 2 4 (U 0 4))=true:=by decide +kernel
theorem itK5_2:itR2 2 (takeK 2 5 (U 0 4))=true:=by decide +kernel
theorem itK7_2:itR2 2 (takeK 2 7 (U 0 4))=true:=by decide +kernel
theorem itK8_2:itR2 2 (takeK 2 8 (U 0 4))=true:=by decide +kernel
theorem itK9_2:itR2 2 (takeK 2 9 (U 0 4))=true:=by decide +kernel
theorem itK10_2:itR2 2 (takeK 2 10 (U 0 4))=true:=by decide +kernel
theorem itK11_2:itR2 2 (takeK 2 11 (U 0 4))=true:=by decide +kernel
theorem itO0_2:itR2 2 (takeK 2 6 (N 0))=true:=by decide +kernel
theorem itO1_2:itR2 2 (takeK 2 6 (N 1))=true:=by decide +kernel
theorem itO2_2:itR2 2 (takeK 2 6 (N 2))=true:=by decide +kernel
theorem itO3_2:itR2 2 (takeK 2 6 (N 3))=true:=by decide +kernel
theorem itO4_2:itR2 2 (takeK 2 6 (N 4))=true:=by decide +kernel
theorem it3_2:itR3 2=true:=by decide +kernel
end SE
end
end Go.Proofs.YtdgejnakakjgfaaGreatDoor
