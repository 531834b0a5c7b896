/- An item of link 1: runs. -/
import Derived.Test.YtdgejnakakjgfaaGreatDoorR18
set_option linter.unusedVariables false
set_option linter.unusedSimpArgs false
set_option maxRecDepth 100000
namespace Go.Proofs.YtdgejnakakjgfaaGreatDoor
section
namespace SE
open Go.RowKit
set_option maxHeartbeats 0
theorem it1_1:itR1 1=true:=by decide +kernel
theorem itN_1:itR2 1 (takeN 1)=true:=by decide +kernel
theorem itK3_1:itR2 1 (takeK 1 3 (U 0 4))=true:=by decide +kernel
theorem itK4_1:itR2 1 (takeK 1 4 (U 0 4))=true:=by decide +kernel
theorem itK5_1:itR2 1 (takeK 1 5 (U 0 4))=true:=by decide +kernel
theorem itK7_1:itR2 1 (takeK 1 7 (U 0 4))=true:=by decide +kernel
theorem itK8_1:itR2 1 (takeK 1 8 (U 0 4))=true:=by decide +kernel
theorem itK9_1:itR2 1 (takeK 1 9 (U 0 4))=true:=by decide +kernel
theorem itK10_1:itR2 1 (takeK 1 10 (U 0 4))=true:=by decide +kernel
theorem itK11_1:itR2 1 (takeK 1 11 (U 0 4))=true:=by decide +kernel
theorem itO0_1:itR2 1 (takeK 1 6 (N 0))=true:=by decide +kernel
theorem itO1_1:itR2 1 (takeK 1 6 (N 1))=true:=by decide +kernel
theorem itO2_1:itR2 1 (takeK 1 6 (N 2))=true:=by decide +kernel
theorem itO3_1:itR2 1 (takeK 1 6 (N 3))=true:=by decide +kernel
theorem itO4_1:itR2 1 (takeK 1 6 (N 4))=true:=by decide +kernel
theorem it3_1:itR3 1=true:=by decide +kernel
end SE
end
end Go.Proofs.YtdgejnakakjgfaaGreatDoor
