/- A tick: runs. A tick: runs. A holder that may be lost: the states, the parts. -/
import Derived.Test.YtdgejnakakjgfaaGreatDoorR18
set_option linter.unusedVariables false
set_option linter.unusedSimpArgs false
set_option maxRecDepth 100000
namespace Go.Proofs.YtdgejnakakjgfaaGreatDoor
section
namespace SE
open Go.RowKit
set_option maxHeartbeats 0
theorem tick_0:tickR0=true:=by decide +kernel
theorem tick1_0000:tickR1 false false false false=true:=by decide +kernel
theorem tick1_0001:tickR1 false false false true=true:=by decide +kernel
theorem tick1_0010:tickR1 false false true false=true:=by decide +kernel
theorem tick1_0011:tickR1 false false true true=true:=by decide +kernel
theorem tick1_0100:tickR1 false true false false=true:=by decide +kernel
theorem tick1_0101:tickR1 false true false true=true:=by decide +kernel
theorem tick1_0110:tickR1 false true true false=true:=by decide +kernel
theorem tick1_0111:tickR1 false true true true=true:=by decide +kernel
end SE
end
section
namespace SE
open Go.RowKit
set_option maxHeartbeats 0
theorem tick1_1000:tickR1 true false false false=true:=by decide +kernel
theorem tick1_1001:tickR1 true false false true=true:=by decide +kernel
theorem tick1_1010:tickR1 true false true false=true:=by decide +kernel
theorem tick1_1011:tickR1 true false true true=true:=by decide +kernel
theorem tick1_1100:tickR1 true true false false=true:=by decide +kernel
theorem tick1_1101:tickR1 true true false true=true:=by decide +kernel
theorem tick1_1110:tickR1 true true true false=true:=by decide +kernel
theorem tick1_1111:tickR1 true true true true=true:=by decide +kernel
end SE
end
section
namespace SE
open Go.RowKit
set_option maxHeartbeats 0
def loseQ (n:Int) (bits tok:List SV):SE.St where
 heap:=(100050,.cells 100 tok)::(100005,.opq)::del (upd (ltX n en0).heap 3 (.cells 158 [.sl 100030,A 148,C64])) 5
 tab:=(ltX n en0).tab
 sls:=(100030,.own 100005 1 ([U 0 3]++bits++[A 148]))::del (ltX n en0).sls 30
 nid:=100400
 facts:=(ltX n en0).facts
def tok0:List SV:=[A 200,A 202,A 201,U 0 1000,U 0 1000,U 0 1000,U 0 1000,.bool]
def tokN (h:Int):List SV:=[N h,U 0 65535,N (-1),N 0,N 0,N 0,N 0,.bool]
def loseSl (how:Int):List (Nat×SV):=[(0,.ptr 4 0),(3,.ptr 100050 0),(4,N how)]
def loseAt (n how:Int) (bits tok:List SV):At:=⟨.n,loseSl how,loseQ n bits tok⟩
def loseAll (n:Int):List At :=
 [loseAt n 0 bits3 tok0,loseAt n 5 [N 0,A 238,A 239] (tokN 1),loseAt n 5 [A 237,N 0,A 239] (tokN 2),loseAt n 5 [A 237,A 238,N 0] (tokN 3),loseAt n 5 bits3 (tokN 4),loseAt n 6 bits3 (tokN 4)]
def keepL (id:Nat):Bool:=keepN id||((Nat.ble 230 id&&Nat.ble id 236)||(Nat.ble 270 id&&Nat.ble id 272))
def lfL (id:Nat):Rn:=bif keepL id then .nm id else fN (200000+id) fun n=>.nm n
def upL (S:SE.St):SE.St:={ heap:=mvH lfL S.heap,tab:=mvT lfL S.tab,sls:=mvS true lfL S.sls,nid:=200400,facts:=mvF lfL S.facts }
def loseF (n:Int):SE.St:=upL (ltX (n+4) en0)
def loseEnd (n:Int):List At:=[⟨.n,slS,loseF n⟩,⟨.r,slS,loseF n⟩]
def loseM (n:Int):Sm:=⟨ltX n en0,[.ptr 4 0],[(.tup [],loseF n)]⟩
def clT:List (Nat×Int×Int):=[(200,0,4),(201,-1,3),(202,0,65535),(148,1,3),(237,0,1),(238,0,1),(239,0,1),(143,1,1000)]
def clS:SE.St:=⟨[(3,.cells 158 [.sl 30,A 148,C64]),(5,.opq)],clT,[(30,.own 5 1 qArgs),(21,.bytes (.r 1 64)),(22,.bytes (.r 1 64)),(23,.bytes (.r 1 64)),(24,.bytes (.r 1 64))],300,[(2,polCells)]⟩
def clA:List SV:=[.agg polCells,.agg tok0,.ptr 3 0,.bool]
def tokC (h:Int):List SV:=[N h,U 0 65535,N (-1),N 0,N 0,N 0,N 0,.bool]
def cHp:List (Nat×Blk):=[(3,.cells 158 [.sl 5030,A 148,C64]),(5005,.opq)]
def cSl (b1 b2 b3:SV):Nat×SlI:=(5030,.own 5005 1 [U 0 3,b1,b2,b3,A 148])
def clO1 (how:Int) (tok:List SV) (b1 b2 b3:SV):SV×SE.St:=(.tup [.agg tok,N how],⟨cHp,clT,[cSl b1 b2 b3],5400,[]⟩)
def clO0:SV×SE.St:=(.tup [.agg tok0,N 0],⟨cHp,clT,[cSl (A 237) (A 238) (A 239)],5400,[]⟩)
def clO:Out:=[clO0,clO1 5 (tokC 1) (N 0) (A 238) (A 239),clO1 5 (tokC 2) (A 237) (N 0) (A 239),clO1 5 (tokC 3) (A 237) (A 238) (N 0),clO1 5 (tokC 4) (A 237) (A 238) (A 239),clO1 6 (tokC 4) (A 237) (A 238) (A 239)]
def clM:Sm:=⟨clS,clA,clO⟩
noncomputable def clR:Bool:=runFits6 5000 [] clO (run (TL kScene2 (fun _=>false) false) 60 134 clA clS)
def kLose:List SV→SE.St→Option Out:=kSm clM [] true
noncomputable abbrev kScene3:List (Nat×(List SV→SE.St→Option Out)):=(134,kLose)::kScene2
noncomputable def loseR1 (n:Int):Bool:=atFits 100000 84 namedC (loseAll n) (execs (TL kScene3 (fun _=>false) false) 60 [nthC 0 (codeOf 89),nthC 1 (codeOf 89)] (tmL 84 slS,ltX n en0))
noncomputable def loseR2 (n how:Int) (bits tok:List SV):Bool:=atFits 200000 84 namedC (loseEnd n) (exec (TL kScene2 joinT false) 60 (tailC 2 (codeOf 89)) (tmL 84 (loseSl how),loseQ n bits tok))
def kLost:List SV→SE.St→Option Out:=kSm (loseM 18) namedC true
noncomputable abbrev kScene4:List (Nat×(List SV→SE.St→Option Out)):=(89,kLost)::kScene2
noncomputable def tickRE:Bool:=atFits 1000000 105 namedC (tkA 10 22) (execs (TL kScene4 joinT false) 60 [nthC 5 (codeOf 53)] (tmL 105 slS,tkS 4 18))
end SE
end
end Go.Proofs.YtdgejnakakjgfaaGreatDoor
