/- Who waits: runs. Who waits, in order: runs. -/
import Derived.Test.YtdgejnakakjgfaaGreatDoorQ19
set_option linter.unusedVariables false
set_option linter.unusedSimpArgs false
set_option maxRecDepth 100000
namespace Go.Proofs.YtdgejnakakjgfaaGreatDoor
section
namespace SE
open Go.RowKit
set_option maxHeartbeats 0
theorem drop_a:allN dropR 0 2=true:=by decide +kernel
theorem drop_b:allN dropR 2 2=true:=by decide +kernel
theorem drop_c:dropR 4=true:=by decide +kernel
theorem push_a:pushR 1=true:=by decide +kernel
theorem push_b:pushR 2=true:=by decide +kernel
theorem push_c:pushR 3=true:=by decide +kernel
theorem head_n:smN 1000 215 headO=true:=by decide +kernel
theorem head_a:smR 1000 tb0 215 headO seqA=true:=by decide +kernel
theorem head_b:smR 1000 tb0 215 headO seqB=true:=by decide +kernel
end SE
end
section
namespace SE
open Go.RowKit
set_option maxHeartbeats 0
theorem sort_n:smN 400 54 sortO=true:=by decide +kernel
theorem sort_a:smR 400 tb1 54 sortO seqA=true:=by decide +kernel
theorem sort_1:smR 400 tb1 54 sortO [[1,2,3],[1,3,2]]=true:=by decide +kernel
theorem sort_2:smR 400 tb1 54 sortO [[2,1,3],[2,3,1]]=true:=by decide +kernel
theorem sort_3:smR 400 tb1 54 sortO [[3,1,2],[3,2,1]]=true:=by decide +kernel
end SE
end
end Go.Proofs.YtdgejnakakjgfaaGreatDoor
