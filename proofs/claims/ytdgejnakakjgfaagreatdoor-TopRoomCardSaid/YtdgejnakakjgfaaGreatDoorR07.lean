/- The core under the symbolic executor: tables of contracts, states to begin with. Outcomes looked at: facts that hold by themselves, cells named, a renaming found. The plain law of the sum: shifts of a 16-bit register, linear and one to one; the sum of bytes; what a turned bit does. No program in sight. Words for memory: a slice of bytes that reads as a list; an append of bytes onto a row of the call's own. Lemmas on plain memory, no program. The sum's walks: crc.Step and crc.Sum, and the reference's, come to the plain law's 'stp' and 'sum'. What comes in, as lists of bytes and registers; and the walks of the laws CrcAll, CrcApart. A row of bytes of the call's own, and an append of bytes onto it; over the program's table of types alone. The plain law of frames: what stands at the beginning of bytes, what a frame is; no program in sight. The walks of the frame's small parts: reject, skip, bytes.IndexByte, bytes.Clone. Small functions: numbers, timers, tokens. Offers without closures; the setpoint. -/
import Derived.Test.YtdgejnakakjgfaaGreatDoorProg
import Derived.Test.YtdgejnakakjgfaaGreatDoorR06
import Derived.WalkKit
import Derived.WalkSpells
import Derived.WalkLawsBesides
import Derived.Laws.OwnMore
import Derived.Deep.AppendLies
import Derived.Deep.Draws
import Derived.Maps.AppendAt
import Derived.RegionTactic
import Derived.OwnWalk
import Derived.Lib.Hide
import Derived.Lib.SlBytesConst
import Derived.Deep.QuietTactic
import Derived.BigQuiet
import Derived.Laws.CopyOwn
import Derived.Laws.MakeOwn
import Derived.Lib.BytesEntry
import Derived.Laws.Externs
import Derived.Below
import Derived.Outline
import Derived.Deep.RegionHeld3
import Derived.Deep.RegionWith
import Derived.StillTailTactics
set_option linter.unusedVariables false
set_option linter.unusedSimpArgs false
set_option maxRecDepth 100000
namespace Go.Proofs.YtdgejnakakjgfaaGreatDoor
section
namespace SE
def A (id:Nat):SV:=.int .i64 (.a id)
def N (n:Int):SV:=.int .i64 (.r n n)
def U (lo hi:Int):SV:=.int .i64 (.r lo hi)
def I64:SV:=.int .i64 (.r (-9223372036854775808) 9223372036854775807)
def C64:SV:=.int .u64 (.r 0 18446744073709551615)
def bytesS (n:Nat):SV:=.agg (rep n byteCell)
def atom (st:St) (lo hi:Int):St:={ st with tab:=(st.nid,lo,hi)::st.tab,nid:=st.nid+1 }
def newBytes (st:St) (hi:Int):St:={ st with sls:=(st.nid,.bytes (.r 0 hi))::st.sls,nid:=st.nid+1 }
def addFact (st:St) (k:Nat) (l:List SV):St:={ st with facts:=(k,l)::st.facts }
def eqN (st:St) (v:SV) (n:Int):Option St :=
 match v with
 | .int _ (.r l h)=>bif decide (l≤n)&&decide (n≤h) then some st else none
 | .int _ (.a id)=>match lk st.tab id with
  | some (l,h)=>bif decide (l≤n)&&decide (n≤h) then some { st with tab:=upd st.tab id (n,n) } else none
  | none=>none
 | _=>none
def optL {α:Type}:Option α→List α
 | some x=>[x]
 | none=>[]
def isI:SV→Bool
 | .int .i64 _=>true
 | _=>false
def allI:List SV→Bool
 | []=>true
 | v::l=>isI v&&allI l
def isIn (st:St) (v:SV) (a b:Int):Bool :=
 isI v&&(match rng st v with
 | some (_,l,h)=>decide (a≤l)&&decide (h≤b)
 | none=>false)
def exS:SV→Bool
 | .int _ (.a _)=>true
 | .sl _=>true
 | _=>false
def allXS:List SV→Bool
 | []=>true
 | v::l=>exS v&&allXS l
def isPol (st:St) (p:SV):Bool :=
 match p with
 | .agg l=>allXS l&&hasF (2,l) st.facts
 | _=>false
def kNext (args:List SV) (st:St):Option Out:=some [(bytesS 32,st)]
def kPutReply (args:List SV) (st:St):Option Out:=some [(.tup [.sl st.nid,U 0 3],newBytes st 32)]
def kPut (args:List SV) (st:St):Option Out :=
 match args with
 | [.sl i]=>match lk st.sls i with
  | some (.bytes l)=>match rngI st l with
   | some (_,h)=>bif decide (h≤32) then some [(.tup [.sl st.nid,N 0],newBytes st 40)] else none
   | none=>none
  | _=>none
 | _=>none
def zeroMsg:SV:=.agg [N 0,N 0,N 0,N 0,N 0,N 0,N 0,.ff,N 0,N 0,N 0,N 0]
def msgOf (st:St) (k:Int) (to:Option Int):SV×St :=
 (.tup [.agg [N k,U 0 4294967295,A st.nid,(match to with
  | some t=>N t
  | none=>A (st.nid+1)),U 0 65535,A (st.nid+2),A (st.nid+3),.bool,U (-32768) 32767,U (-32768) 32767,U (-32768) 32767,U (-32768) 32767],N 0],
  { st with tab:=(st.nid,0,3)::(st.nid+1,0,4)::(st.nid+2,0,4)::(st.nid+3,(bif decide (k=11) then 1 else 0),3)::st.tab,nid:=st.nid+4 })
def msgAny (st:St):SV×St :=
 (.tup [.agg [U 1 11,U 0 4294967295,A st.nid,U 0 4,U 0 65535,U 0 4,U 0 3,.bool,U (-32768) 32767,U (-32768) 32767,U (-32768) 32767,U (-32768) 32767],N 0],{ st with tab:=(st.nid,0,3)::st.tab,nid:=st.nid+1 })
def kMsg (args:List SV) (st:St):Option Out :=
 match args with
 | [b]=>match bytesArg st b with
  | some (.a _)=>some [(.tup [zeroMsg,N 13],st),msgAny st]
  | some (.r 2 2)=>some [(.tup [zeroMsg,N 13],st),msgAny st]
  | some _=>some ((.tup [zeroMsg,N 13],st)::([1,2,3,4,5,7,8,9,10,11].map fun k=>msgOf st k none)++[0,1,2,3,4].map fun t=>msgOf st 6 (some t))
  | none=>none
 | _=>none
def kOpen (args:List SV) (st:St):Option Out :=
 match args with
 | [_,_,b]=>match bytesArg st b with
  | some _=>some [(.tup [.nils,N 14],st),(.tup [.sl st.nid,N 0],newBytes st 32)]
  | none=>none
 | _=>none
def kSee (args:List SV) (st:St):Option Out :=
 match args with
 | [.agg [a,h,.int .u64 _],n]=>bif isB a&&(isIn st h 0 4294967295&&isI n) then some [(.tup [.agg [.bool,U 0 4294967295,.int .u64 (.a st.nid)],.bool],{ st with nid:=st.nid+1 })] else none
 | _=>none
def kTag (n:Nat) (args:List SV) (st:St):Option Out:=some [(bytesS n,st)]
def kTakes (args:List SV) (st:St):Option Out :=
 match args with
 | [p,s,r]=>bif isPol st p&&(isI s&&isI r) then some [(.tt,addFact st 4 [s,r]),(.ff,st)] else none
 | _=>none
def kRank (args:List SV) (st:St):Option Out :=
 match args with
 | [p,s]=>bif isPol st p&&isI s then some [(A st.nid,addFact (atom st (-1) 4) 5 [s,A st.nid])] else none
 | _=>none
def kHigher (args:List SV) (st:St):Option Out :=
 match args with
 | [p,a,b]=>bif isPol st p&&(isI a&&isI b) then some [(.bool,st)] else none
 | _=>none
def kMay (args:List SV) (st:St):Option Out :=
 match args with
 | [p,m,r,c]=>bif isPol st p&&(isIn st m 0 4&&(isIn st r 0 3&&isIn st c 0 3)) then some [(.bool,st)] else none
 | _=>none
def kGoes (args:List SV) (st:St):Option Out :=
 match args with
 | [p,m,t]=>bif isPol st p&&(isIn st m 0 4&&isIn st t 0 4) then some [(.bool,st)] else none
 | _=>none
def bnd (st:St) (i:Nat) (n:Nat):St :=
 match n with
 | 0=>st
 | n+1=>bnd { st with tab:=(i,-1000,1000)::st.tab,facts:=(0,[A i])::st.facts } (i+1) n
def four (i:Nat):List SV:=[A i,A (i+1),A (i+2),A (i+3)]
def kSet (args:List SV) (st:St):Option Out :=
 match args with
 | [p,.agg [c0,t1,t2,t3,t4,n1,n2,n3,n4,b1,b2,b3],c,.agg [x1,x2,x3,x4],.agg [y1,y2,y3]] =>
  bif isPol st p&&(isIn st c 1 3&&allI [c0,t1,t2,t3,t4,n1,n2,n3,n4,b1,b2,b3,x1,x2,x3,x4,y1,y2,y3]) then
    some [(.agg (c::four st.nid++[n1,n2,n3,n4,y1,y2,y3]),bnd { st with nid:=st.nid+4 } st.nid 4)] else none
 | _=>none
def bounded (st:St) (v:SV):Bool :=
 match v with
 | .int .i64 (.r l h)=>decide (l=0)&&decide (h=0)
 | .int .i64 (.a i)=>hasF (0,[.int .i64 (.a i)]) st.facts
 | _=>false
def allB (st:St):List SV→Bool
 | []=>true
 | v::l=>bounded st v&&allB st l
def kLimit (args:List SV) (st:St):Option Out :=
 match args with
 | [p,.agg [c,t1,t2,t3,t4,n1,n2,n3,n4,b1,b2,b3]] =>
  bif isPol st p&&(allI [c,b1,b2,b3]&&(isIn st b1 (-9223372036854775808) 9223372036854775807&&allB st [t1,t2,t3,t4,n1,n2,n3,n4])) then
   some [(.agg (c::t1::t2::t3::t4::four st.nid++[I64,b2,b3]),bnd { st with nid:=st.nid+4 } st.nid 4)] else none
 | _=>none
structure Qv where
 e:Nat
 i:Nat
 b:Nat
 most:SV
 bits:List SV
def queueOf (st:St) (q:Nat):Option Qv :=
 match lk st.heap q with
 | some (.cells e [.sl i,most,_])=>match lk st.sls i with
  | some (.own b 1 [_,q1,q2,q3,m])=>bif SV.beq m most then some ⟨e,i,b,most,[q1,q2,q3]⟩ else none
  | _=>none
 | _=>none
def putQ (st:St) (q:Nat) (v:Qv) (bits:List SV):St :=
 { st with heap:=(st.nid,.opq)::upd (del st.heap v.b) q (.cells v.e [.sl (st.nid+1),v.most,C64]),sls:=(st.nid+1,.own st.nid 1 (U 0 3::bits++[v.most]))::del st.sls v.i,nid:=st.nid+2 }
def kDrop (args:List SV) (st:St):Option Out :=
 match args with
 | [.ptr q 0,s]=>match queueOf st q,cst st s with
  | some v,some n=>bif decide (1≤n)&&decide (n≤3) then some [(.bool,putQ st q v (setN v.bits (n.toNat - 1) (N 0)))] else some [(.ff,st)]
  | _,_=>none
 | _=>none
def kPush (args:List SV) (st:St):Option Out :=
 match args with
 | [.ptr q 0,.agg [s,r,_,_]]=>match queueOf st q,cst st s with
  | some v,some n=>bif decide (1≤n)&&(decide (n≤3)&&hasF (5,[s,r]) st.facts) then
    (match nth v.bits (n.toNat - 1) with
    | some b=>some ((optL (eqN st b 1)).map (fun s=>(N 27,s))++(optL (eqN st b 0)).map (fun s=>(N 3,s))++(optL (eqN st b 0)).map (fun s=>(N 0,putQ s q v (setN v.bits (n.toNat - 1) (N 1)))))
    | none=>none) else none
  | _,_=>none
 | _=>none
def allZ (st:St):List SV→Option St
 | []=>some st
 | b::l=>match eqN st b 0 with
  | some s=>allZ s l
  | none=>none
def headsOf (st:St):Nat→List SV→Out
 | _,[]=>[]
 | n,b::l=>(optL (eqN st b 1)).map (fun s=>(.tup [.agg [N (Int.ofNat n),I64,I64,I64],N 0],s))++headsOf st (n+1) l
def kHead (args:List SV) (st:St):Option Out :=
 match args with
 | [.ptr q 0]=>match queueOf st q with
  | some v=>some ((optL (allZ st v.bits)).map (fun s=>(.tup [.agg [N 0,N 0,N 0,N 0],N 2],s))++headsOf st 1 v.bits)
  | none=>none
 | _=>none
def setBits (st:St) (l:List Nat):Nat→List SV→Option St
 | _,[]=>some st
 | n,b::bs=>match eqN st b (bif hasN l n then 1 else 0) with
  | some s=>setBits s l (n+1) bs
  | none=>none
def askCells:List Nat→List SV
 | []=>[]
 | n::l=>N (Int.ofNat n)::I64::I64::I64::askCells l
def sortedF (st:St):List Nat→St
 | a::b::l=>sortedF (addFact st 6 [N (Int.ofNat a),N (Int.ofNat b)]) (b::l)
 | _=>st
def listRow (st:St) (l:List Nat):SV×St :=
 match l with
 | []=>(.nils,st)
 | l=>(.sl (st.nid+1),appSt (sortedF st l) 112 4 l.length (askCells l) st.heap st.sls)
def allSeqs:List (List Nat):=[[],[1],[2],[3],[1,2],[2,1],[1,3],[3,1],[2,3],[3,2],[1,2,3],[1,3,2],[2,1,3],[2,3,1],[3,1,2],[3,2,1]]
def kList (args:List SV) (st:St):Option Out :=
 match args with
 | [.ptr q 0]=>match queueOf st q with
  | some v=>some (allSeqs.flatMap fun l=>(optL (setBits st l 1 v.bits)).map fun s=>listRow s l)
  | none=>none
 | _=>none
def goneCells (i:Nat):Nat→List SV
 | 0=>[]
 | n+1=>A i::I64::I64::I64::goneCells (i+1) n
def goneAt (st:St) (i:Nat):Nat→St
 | 0=>st
 | n+1=>goneAt { st with tab:=(i,1,3)::st.tab } (i+1) n
def lessBits (st:St) (bits:List SV):St :=
 match bits with
 | [a,b,c]=>{ st with tab:=(st.nid,0,1)::(st.nid+1,0,1)::(st.nid+2,0,1)::st.tab,facts:=(7,[A st.nid,a])::(7,[A (st.nid+1),b])::(7,[A (st.nid+2),c])::st.facts,nid:=st.nid+3 }
 | _=>st
def tickRow (st:St) (n:Nat):SV×St :=
 match n with
 | 0=>(.nils,st)
 | n=>(.sl (st.nid+n+1),(fun s:St=>appSt { s with nid:=st.nid+n } 112 4 n (goneCells st.nid n) s.heap s.sls) (goneAt st st.nid n))
def kQTick (args:List SV) (st:St):Option Out :=
 match args with
 | [.ptr q 0]=>match queueOf st q with
  | some v=>some ([0,1,2,3].map fun n=>tickRow (putQ (lessBits st v.bits) q v [A st.nid,A (st.nid+1),A (st.nid+2)]) n)
  | none=>none
 | _=>none
def kHear (args:List SV) (st:St):Option Out :=
 match args with
 | .ptr s 0::_=>match lk st.heap s with
  | some (.cells e [.ptr c 0,.sl i,r])=>match lk st.sls i with
   | some (.own b 3 [n])=>match rng st n with
    | some (_,lo,hi)=>bif decide (hi≤100000)&&noOwn b (del st.sls i) then
      some [(.tup [],{ st with heap:=(st.nid,.opq)::upd (del st.heap b) s (.cells e [.ptr c 0,.sl (st.nid+1),r]),sls:=(st.nid+1,.own st.nid 3 [U lo (hi+1)])::del st.sls i,nid:=st.nid+2 })] else none
    | none=>none
   | _=>none
  | _=>none
 | _=>none
def kT (g:Nat) (args:List SV) (st:St):Option (Option Out) :=
 bif Nat.blt g 100 then
  (bif Nat.beq g 65 then some (kNext args st) else bif Nat.beq g 81 then some (kDrop args st) else bif Nat.beq g 38 then some (kList args st)
  else bif Nat.beq g 88 then some (kQTick args st) else bif Nat.beq g 90 then some (kLimit args st) else none)
 else bif Nat.blt g 150 then
  (bif Nat.beq g 101 then some (kMsg args st) else bif Nat.beq g 102 then some (kTakes args st) else bif Nat.beq g 105 then some (kHear args st) else bif Nat.beq g 124 then some (kHear args st) else bif Nat.beq g 108 then some (kOpen args st) else bif Nat.beq g 109 then some (kSee args st)
  else bif Nat.beq g 122 then some (kSet args st) else none)
 else
  (bif Nat.beq g 150 then some (kTag 8 args st) else bif Nat.beq g 151 then some (kPutReply args st) else bif Nat.beq g 152 then some (kPut args st) else bif Nat.beq g 153 then some (kTag 8 args st)
  else bif Nat.beq g 155 then some (kTag 32 args st) else bif Nat.beq g 168 then some (kMay args st) else bif Nat.beq g 169 then some (kGoes args st) else bif Nat.beq g 204 then some (kHigher args st)
  else bif Nat.beq g 205 then some (kPush args st) else bif Nat.beq g 206 then some (kRank args st) else bif Nat.beq g 215 then some (kHead args st) else none)
def pkSat (args:List SV) (st:St):Option SV :=
 match args with
 | [n,m]=>match rng st n,rng st m with
  | some (.i64,nl,nh),some (.i64,ml,mh)=>bif decide (-5000000000≤nl)&&decide (mh≤5000000000) then
    (bif decide (nh<ml) then some (U (nl+1) (nh+1)) else some (U (mn (nl+1) ml) mh)) else none
  | _,_=>none
 | _=>none
def tabOf (st:St) (v:SV):Option (List SV) :=
 match v with
 | .ptr b 0=>match lk st.heap b with
  | some (.cells 145 cs)=>some cs
  | some (.ro 145 cs)=>some cs
  | _=>none
 | _=>none
def flagAt (cs:List SV) (s:Int):Option SV :=
 match nth cs (bif decide (s=0) then 0 else 39*s.toNat - 36) with
 | some v=>bif isB v then some v else none
 | none=>none
def rkOn (args:List SV) (st:St):Option SV :=
 match args with
 | [t,s]=>match tabOf st t with
  | some cs=>match rng st s with
   | some (.i64,l,h)=>bif decide (l=h) then
     (bif decide (l=4) then some .tt else bif decide (0≤l)&&decide (l≤3) then flagAt cs l else some .ff)
    else (match flagAt cs 0,flagAt cs 1,flagAt cs 2,flagAt cs 3 with
     | some _,some _,some _,some _=>some .bool
     | _,_,_,_=>none)
   | _=>none
  | none=>none
 | _=>none
def rkRole (args:List SV) (st:St):Option SV :=
 match args with
 | [t,s]=>match tabOf st t,(bif isI s then cst st s else none) with
  | some cs,some l=>bif decide (1≤l)&&decide (l≤3) then
    (match flagAt cs l,nth cs (39*l.toNat - 33) with
    | some f,some r=>(match evalB st f with
     | some true=>(match r with
      | .int .i64 x=>some (.int .i64 x)
      | _=>none)
     | some false=>bif isI r then some (N 0) else none
     | none=>match rng st r with
      | some (.i64,a,b)=>some (U (mn a 0) (mx b 0))
      | _=>none)
    | _,_=>none) else some (N 0)
  | _,_=>none
 | _=>none
def srcOf (v:SV):Option Int :=
 match v with
 | .int .i64 (.r a b)=>bif decide (a=b) then some a else none
 | _=>none
def inSrc (st:St) (v:SV):Bool :=
 match rng st v with
 | some (_,l,h)=>decide (0≤l)&&decide (h≤4)
 | none=>false
def putBit (l:List SV) (base:Nat) (s:Int) (v:SV):List SV :=
 bif decide (1≤s)&&decide (s≤3) then setN l (base+s.toNat - 1) v else l
def appRec (args cells:List SV) (st:St):Option (List SV) :=
 match cells with
 | [k,s,_,_,_,_]=>match srcOf k with
  | some k=>bif inSrc st s&&allI cells then
    (bif decide (k=3)||(decide (k=4)||(decide (k=5)||(decide (k=8)||decide (k=10)))) then
     (match srcOf s with
     | some s=>some (
      bif decide (k=3) then putBit (putBit args 12 s (N 1)) 6 s (N 1)
      else bif decide (k=4)||decide (k=5) then putBit (putBit args 6 s (N 0)) 9 s (N 0)
      else bif decide (k=8) then putBit args 9 s (N 0)
      else putBit args 9 s (N 1))
     | none=>none)
    else some args) else none
  | none=>none
 | _=>none
def appT (nm:Nat) (args cells:List SV) (st:St):Option (List SV) :=
 bif Nat.beq nm 2 then appRec args cells st else bif Nat.beq nm 3 then (bif allCell cells then some args else none) else none
def ownT (nm:Nat):Option (Nat×Nat) :=
 bif Nat.beq nm 1 then some (136,5) else bif Nat.beq nm 2 then some (60,6) else bif Nat.beq nm 3 then some (252,2) else none
def exI:SV→Bool
 | .int .i64 (.a _)=>true
 | .int .i64 (.r l h)=>decide (l=h)
 | _=>false
def allEx:List SV→Bool
 | []=>true
 | v::l=>exI v&&allEx l
def empT (nm:Nat) (args:List SV):Bool :=
 bif Nat.beq nm 3 then (match args with | []=>true | _=>false)
 else bif Nat.beq nm 2 then (match args with
  | [a,b,c,d,e,f,g,h,i,j,k,l,m,n,o]=>allEx [a,b,c,d,e,f]&&(SV.beqL [a,b,c,d,e,f] [g,h,i,j,k,l]&&SV.beqL [m,n,o] [N 0,N 0,N 0])
  | _=>false)
 else false
def flagI (v:SV):SV :=
 match v with
 | .cmp .ne id 0=>A id
 | .tt=>N 1
 | .ff=>N 0
 | _=>.u
def preT (g:Nat) (args:List SV) (st:St):List (Nat×Nat×Nat×List SV) :=
 bif Nat.ble 50 g&&Nat.ble g 53 then
  (match args with
  | .ptr s 0::_=>match lk st.heap s with
   | some (.cells _ (.ptr c 0::_))=>match lk st.heap c with
    | some (.cells _ cs)=>match nth cs 95,nth cs 64 with
     | some (.ptr t 0),some (.ptr q 0)=>match lk st.heap t,queueOf st q with
      | some (.cells _ ts),some v=>match nth ts 3,nth ts 42,nth ts 81 with
       | some f1,some f2,some f3 =>
        [(s,1,3,[]),(s,2,2,(fun l:List SV=>l++l++[N 0,N 0,N 0]) (flagI f1::flagI f2::flagI f3::v.bits))]
       | _,_,_=>[]
      | _,_=>[]
     | _,_=>[]
    | _=>[]
   | _=>[]
  | _=>[])
 else []
def splitT (g:Nat):Option Nat:=bif Nat.beq g 81 then some 1 else none
def joinT (g:Nat):Bool:=hasN [128,119,134] g
def u32:SV:=.int .u32 (.r 0 4294967295)
def glT (g:Nat):Option (List SV) :=
 bif Nat.beq g 0 then some [.ff,.ff,.ff,.ff,.ff,.ff,.ff,.ff,.ff,.ff,.tt,.tt] else bif Nat.beq g 1 then some (rep 64 u32) else none
noncomputable def TC:Tb where
 ty:=tyT
 fn:=fnT
 gl:=glT
 eqt:=fun _=>false
 pkB:=fun g=>Nat.beq g 73
 pk:=fun g args st=>pkSat args st
 rkB:=fun g=>Nat.beq g 39||Nat.beq g 40
 rk:=fun g args st=>bif Nat.beq g 39 then rkOn args st else rkRole args st
 k:=kT
 inv:=fun _ _=>none
 pre:=preT
 emp:=empT
 nameB:=false
 ownE:=ownT
 app:=appT
 split:=splitT
 join:=joinT
 ik:=fun t=>Nat.beq t 174
def keysS:List SV:=[.sl 21,.sl 22,.sl 23,.sl 24]
def polCells:List SV:=[A 100,A 101,A 102,A 103,A 104]++keysS++(List.range 47).map fun i=>A (109+i)
def coreCells:List SV :=
 polCells++[A 200,A 202,A 201,U 0 1000,U 0 1000,U 0 1000,U 0 1000,.bool]++[.ptr 3 0] ++
 [A 210,.bool]++rep 8 byteCell++[A 211,.bool]++rep 8 byteCell++[A 212,.bool]++rep 8 byteCell ++
 [.ptr 2 0,U 0 4294967295,U 0 1000,A 214,I64,I64,I64] ++
 [A 215,A 216,A 217,A 218,A 219,A 220,A 221,A 222,A 223,I64,I64,I64]++rep 32 byteCell
def sessCells (f r s:Nat):List SV:=[.cmp .ne f 0,U 0 1000,U 0 1000,A r]++rep 32 byteCell++[.bool,U 0 4294967295,.int .u64 (.a s)]
def tableCells:List SV:=[.cmp .ne 230 0,U 0 1000,U 0 1000]++sessCells 231 234 270++sessCells 232 235 271++sessCells 233 236 272++[A 142,A 149]
def polTab:List (Nat×Int×Int) :=
 [(139,0,4),(140,0,4),(141,0,4),(142,1,1000),(143,1,1000),(144,1,1000),(145,1,1000),(146,1,1000),(147,0,1000),(148,1,3),(149,1,3)]
def coreTab:List (Nat×Int×Int) :=
 [(200,0,4),(201,-1,3),(202,0,65535),(210,0,4294967295),(211,0,4294967295),(212,0,4294967295),(214,0,4),(215,1,3)] ++
 ((List.range 8).map fun i=>(216+i,-1000,1000))++[(230,0,1),(231,0,1),(232,0,1),(233,0,1),(234,0,3),(235,0,3),(236,0,3),(237,0,1),(238,0,1),(239,0,1)]
def bits3:List SV:=[A 237,A 238,A 239]
def flags3:List SV:=[A 231,A 232,A 233]
def coreFacts:List (Nat×List SV) :=
 (8,A 200::bits3)::(9,A 201::A 200::flags3)::(10,flags3++[A 149])::(3,[A 231,N 1,A 234])::(3,[A 232,N 2,A 235])::(3,[A 233,N 3,A 236])::(7,[A 237,A 231])::(7,[A 238,A 232])::(7,[A 239,A 233])::((List.range 8).map fun i=>(0,[A (216+i)]))++[(2,polCells)]
def coreHeap:List (Nat×Blk):=[(1,.cells 108 coreCells),(2,.cells 145 tableCells),(3,.cells 158 [.sl 30,A 148,C64]),(5,.opq)]
def coreSls:List (Nat×SlI):=[(30,.own 5 1 [U 0 3,A 237,A 238,A 239,A 148]),(21,.bytes (.r 1 64)),(22,.bytes (.r 1 64)),(23,.bytes (.r 1 64)),(24,.bytes (.r 1 64))]
def coreSt:St where
 heap:=coreHeap
 tab:=polTab++coreTab
 sls:=coreSls
 nid:=300
 facts:=coreFacts
def waits3:List SV:=[A 246,A 247,A 248]
end SE
end
section
namespace SE
def isC (st:St) (v:SV) (n:Int):Bool :=
 match rng st v with
 | some (_,l,h)=>decide (l=n)&&decide (h=n)
 | none=>false
def excl (st:St) (v:SV) (n:Int):Bool :=
 match rng st v with
 | some (_,l,h)=>decide (n<l)||decide (h<n)
 | none=>false
def anyF (k:Nat) (f:List SV→Bool):List (Nat×List SV)→Bool
 | []=>false
 | x::l=>bif Nat.beq x.1 k&&f x.2 then true else anyF k f l
def leR (st:St) (a b:SV):Bool :=
 match rng st a,rng st b with
 | some (_,_,h),some (_,l,_)=>decide (h≤l)
 | _,_=>false
def sumR (st:St) (a b c d:SV):Bool :=
 match rng st a,rng st b,rng st c,rng st d with
 | some (_,_,x),some (_,_,y),some (_,_,z),some (_,l,_)=>decide (x+y+z≤l)
 | _,_,_,_=>false
def leF1 (st:St) (a b:SV):Bool :=
 SV.beqC a b||(leR st a b||hasF (7,[a,b]) st.facts)
def leF2 (st:St) (a b:SV):Bool :=
 leF1 st a b||anyF 7 (fun l=>match l with
  | [x,y]=>SV.beqC x a&&(exI y&&leF1 st y b)
  | _=>false) st.facts
def geZ (st:St) (q:SV):Bool :=
 match rng st q with
 | some (_,l,_)=>decide (0≤l)
 | none=>false
def pick3 {α:Type} (i:Nat) (a b c:α):α :=
 match i with
 | 1=>a
 | 2=>b
 | _=>c
def z8 (st:St) (h q:SV) (i:Nat):Bool :=
 isC st q 0||(excl st h (Int.ofNat i)||(geZ st q&&anyF 8 (fun l=>match l with
  | [h',p1,p2,p3]=>SV.beqC h h'&&(exI (pick3 i p1 p2 p3)&&leF1 st q (pick3 i p1 p2 p3))
  | _=>false) st.facts))
def z9 (st:St) (o h f:SV) (i:Nat):Bool :=
 excl st o (Int.ofNat i)||((isC st f 1&&excl st h (Int.ofNat i))||anyF 9 (fun l=>match l with
  | [o',h',g1,g2,g3]=>SV.beqC o o'&&(SV.beqC h h'&&(isC st f 1||SV.beqC f (pick3 i g1 g2 g3)))
  | _=>false) st.facts)
def z10 (st:St) (f g:SV):Bool:=exI g&&(SV.beqC f g||leR st f g)
def ltR (st:St) (a b:SV):Bool :=
 match rng st a,rng st b with
 | some (_,_,h),some (_,l,_)=>decide (h<l)
 | _,_=>false
def aboveF (st:St) (a b:SV):Bool :=
 anyF 5 (fun l=>match l with
  | [x,r]=>SV.beqC x a&&anyF 5 (fun l=>match l with
   | [y,q]=>SV.beqC y b&&ltR st r q
   | _=>false) st.facts
  | _=>false) st.facts
def zT1 (k:Nat) (l:List SV) (st:St):Bool :=
 match l with
 | [x]=>Nat.beq k 0&&isC st x 0
 | [a,b]=>(Nat.beq k 7&&leF2 st a b)||(Nat.beq k 6&&aboveF st a b)
 | [f,i,r]=>Nat.beq k 3&&(isC st f 0||hasF (4,[i,r]) st.facts)
 | [a,b,c,d] =>
  bif Nat.beq k 8 then z8 st a b 1&&(z8 st a c 2&&z8 st a d 3)
  else bif Nat.beq k 10 then sumR st a b c d||anyF 10 (fun l=>match l with
   | [x,y,z,m]=>SV.beqC m d&&(z10 st a x&&(z10 st b y&&z10 st c z))
   | _=>false) st.facts
  else bif Nat.beq k 12 then isC st a 1||(isC st b 0||SV.beqC c d) else false
 | [o,h,a,b,c]=>Nat.beq k 9&&((excl st o 0||anyF 9 (fun l=>match l with
   | [o',h',g1,g2,g3]=>SV.beqC o o'
   | _=>false) st.facts)&&(z9 st o h a 1&&(z9 st o h b 2&&z9 st o h c 3)))
 | _=>false
def zT (k:Nat) (l:List SV) (st:St):Bool:=allEx l&&(hasV st l&&zT1 k l st)
def addR (i:Nat) (r:Rn) (acc:List (Nat×Rn)):List (Nat×Rn) :=
 match lk acc i with
 | some _=>acc
 | none=>(i,r)::acc
def pairM (x y:SV) (acc:List (Nat×Rn)):List (Nat×Rn) :=
 match x,y with
 | .int _ (.a i),.int _ (.a j)=>addR i (.nm j) acc
 | .int _ (.a i),.int _ (.r a b)=>bif decide (a=b) then addR i (.z a) acc else acc
 | .cmp _ i _,.cmp _ j _=>addR i (.nm j) acc
 | .cmp _ i _,.tt=>addR i (.z 1) acc
 | .cmp _ i _,.ff=>addR i (.z 0) acc
 | .sl i,.sl j=>addR i (.nm j) acc
 | .ptr i _,.ptr j _=>addR i (.nm j) acc
 | _,_=>acc
def fR {α:Type} (x:List (Nat×Rn)) (k:List (Nat×Rn)→α):α :=
 match x with
 | []=>k []
 | (i,r)::l=>k ((i,r)::l)
def pairMs {α:Type}:List SV→List SV→List (Nat×Rn)→(List (Nat×Rn)→α)→α
 | x::l,y::m,acc,k=>fR (pairM x y acc) fun acc=>pairMs l m acc k
 | _,_,acc,k=>k acc
def nameIn (acc:List (Nat×Rn)) (i:Nat):Nat :=
 match lk acc i with
 | some (.nm j)=>j
 | _=>i
def mHeap {α:Type} (b:St):List (Nat×Blk)→List (Nat×Rn)→(List (Nat×Rn)→α)→α
 | [],acc,k=>k acc
 | (i,.cells _ cs)::l,acc,k=>(match lk b.heap (nameIn acc i) with
  | some (.cells _ ds)=>pairMs cs ds acc fun acc=>mHeap b l acc k
  | _=>mHeap b l acc k)
 | (i,.ro _ cs)::l,acc,k=>(match lk b.heap (nameIn acc i) with
  | some (.cells _ ds)=>pairMs cs ds acc fun acc=>mHeap b l acc k
  | _=>mHeap b l acc k)
 | _::l,acc,k=>mHeap b l acc k
def mSls {α:Type} (b:St):List (Nat×SlI)→List (Nat×Rn)→(List (Nat×Rn)→α)→α
 | [],acc,k=>k acc
 | (i,.own c _ args)::l,acc,k=>(match lk b.sls (nameIn acc i) with
  | some (.own d _ args')=>fR (addR c (.nm d) acc) fun acc=>pairMs args args' acc fun acc=>mSls b l acc k
  | _=>mSls b l acc k)
 | (i,.bytes x)::l,acc,k=>(match lk b.sls (nameIn acc i) with
  | some (.bytes y)=>fR (pairM (.int .i64 x) (.int .i64 y) acc) fun acc=>mSls b l acc k
  | _=>mSls b l acc k)
 | _::l,acc,k=>mSls b l acc k
def nameCell (st:St) (b i:Nat):St :=
 match lk st.heap b with
 | some (.cells e cs)=>match nth cs i with
  | some (.int k (.r l h))=>bif decide (l=h) then st else { st with heap:=upd st.heap b (.cells e (setN cs i (.int k (.a st.nid)))),tab:=(st.nid,l,h)::st.tab,nid:=st.nid+1 }
  | _=>st
 | _=>st
def nameCells:St→List (Nat×Nat)→St
 | st,[]=>st
 | st,(b,i)::l=>fStM (nameCell st b i) fun st=>fStT st fun st=>nameCells st l
def namedC:List (Nat×Nat):=[(1,57),(1,65),(1,75),(1,85)]
end SE
end
section
namespace Crc
def sh (s:BitVec 16):BitVec 16:=if s.msb then (s <<< 1) ^^^ 0x1021#16 else s <<< 1
def shN:Nat→BitVec 16→BitVec 16
 | 0,s=>s
 | n+1,s=>shN n (sh s)
theorem shN_add (m n:Nat) (s:BitVec 16):shN (m+n) s=shN n (shN m s):=by
 induction m generalizing s with
 | zero=>simp [shN]
 | succ m ih=>rw [Nat.succ_add]; exact ih (sh s)
theorem shN_succ' (n:Nat) (s:BitVec 16):shN (n+1) s=sh (shN n s):=shN_add n 1 s
def up (c:UInt8):BitVec 16:=c.toBitVec.setWidth 16 <<< 8
def low (c:UInt8):BitVec 16:=c.toBitVec.setWidth 16
def stp (s:BitVec 16) (c:UInt8):BitVec 16:=shN 8 (s ^^^ up c)
def run (s:BitVec 16) (l:List UInt8):BitVec 16:=l.foldl stp s
def sum (l:List UInt8):BitVec 16:=run 0xFFFF#16 l
theorem run_append (s:BitVec 16) (a b:List UInt8):run s (a++b)=run (run s a) b:=List.foldl_append
theorem run_snoc (s:BitVec 16) (a:List UInt8) (c:UInt8):run s (a++[c])=stp (run s a) c:=run_append s a [c]
def hi (s:BitVec 16):UInt8:=UInt8.ofBitVec (s >>> 8 |>.setWidth 8)
def lo (s:BitVec 16):UInt8:=UInt8.ofBitVec (s.setWidth 8)
def tb (i:Nat):BitVec 16:=0x8000#16 >>> i
end Crc
end
section
open Go.RowKit
theorem block_of_add (a:Addr) (n:Nat):(a.add n).block=a.block:=by unfold Addr.add; split <;> rfl
theorem add_of_add (a:Addr) (i j:Nat):(a.add i).add j=a.add (i+j):=by
 unfold Addr.add
 by_cases hi:i=0 <;> by_cases hj:j=0 <;> simp [hi,hj,Nat.add_assoc]
def Reads (w:World) (B size:Nat) (A:Option Addr) (n:Nat) (xs:List Value):Prop :=
 xs.length=n*size∧(0<n→∃ ad,A=some ad∧ad.block<B∧∀ j u,xs[j]?=some u→w.cell? (ad.add j)=some u)
section
variable {w w':World} {B B' size n:Nat} {A:Option Addr} {xs:List Value}
theorem Reads.none_:Reads w B size A 0 []:=⟨by simp,fun h=>absurd h (by omega)⟩
theorem Reads.at_ {k:Nat} (h:Reads w B 1 A n xs) (hk:k<n):∃ ad u,A=some ad∧ad.block<B∧xs[k]?=some u∧w.cell? (ad.add k)=some u:=by
 obtain ⟨ad,e,hb,hc⟩:=h.2 (by omega)
 have hl:k<xs.length:=by have:=h.1; omega
 exact ⟨ad,xs[k],e,hb,List.getElem?_eq_getElem hl,hc k _ (List.getElem?_eq_getElem hl)⟩
theorem Reads.keep (h:Reads w B size A n xs) (hk:∀ p:Addr,p.block<B→w'.cell? p=w.cell? p):Reads w' B size A n xs :=
 ⟨h.1,fun hn=>by
  obtain ⟨ad,e,hb,hc⟩:=h.2 hn
  exact ⟨ad,e,hb,fun j u hu=>(hk _ (by rw [block_of_add]; exact hb)).trans (hc j u hu)⟩⟩
theorem Reads.more (h:Reads w B size A n xs) (hB:B≤B'):Reads w B' size A n xs :=
 ⟨h.1,fun hn=>by
  obtain ⟨ad,e,hb,hc⟩:=h.2 hn
  exact ⟨ad,e,by omega,hc⟩⟩
theorem Reads.below (h:Reads w B size A n xs) (hb:Below B w w'):Reads w' B size A n xs:=h.keep fun _ hp=>hb.cell hp
theorem Reads.drewN (h:Reads w B size A n xs) (k:Nat):Reads (w.drewN k) B size A n xs:=h
theorem Reads.alloc (h:Reads w B size A n xs) (hB:B≤w.heap.size) (o:Obj):Reads (w.alloc o) B size A n xs:=h.keep fun p hp=>World.cell?_alloc_lt w o p (by omega)
theorem Reads.setCell (h:Reads w B size A n xs) {p:Addr} (hB:B≤p.block) (u:Value):Reads (w.setCell p u) B size A n xs :=
 h.keep fun q hq=>World.cell?_setCell_other w p q u (fun e=>by subst e; omega)
theorem Reads.cut (h:Reads w B size A n xs) {k cap:Nat} (hk:k≤n) (hc:n≤cap) :
  Reads w B size (if cap=k then A else A.map (·.add (k*size))) (n - k) (xs.drop (k*size)):=by
 refine ⟨by rw [List.length_drop,h.1,Nat.sub_mul],fun hn=>?_⟩
 obtain ⟨ad,rfl,hb,hcell⟩:=h.2 (by omega)
 rw [if_neg (by omega)]
 refine ⟨ad.add (k*size),rfl,by rw [block_of_add]; exact hb,fun j u hu=>?_⟩
 rw [add_of_add]
 exact hcell _ u (by rw [← hu,List.getElem?_drop])
theorem Reads.take (h:Reads w B size A n xs) {k:Nat} (hk:k≤n):Reads w B size A k (xs.take (k*size)):=by
 have:=Nat.mul_le_mul_right size hk
 refine ⟨by rw [List.length_take,h.1]; omega,fun hn=>?_⟩
 obtain ⟨ad,rfl,hb,hcell⟩:=h.2 (by omega)
 refine ⟨ad,rfl,hb,fun j u hu=>hcell _ u ?_⟩
 rw [List.getElem?_take] at hu
 split at hu
 ·exact hu
 ·cases hu
theorem Reads.of_own {base:Nat} {e:TypeId} {c:Nat} (h:w.ownsRow base e size (.slice A n c) n xs):Reads w w.heap.size size A n xs:=by
 refine ⟨h.1,fun hn=>?_⟩
 obtain ⟨g,cap,hv,_,hlt⟩:=h.form hn
 have hA:A=some ⟨g,0,none⟩:=by injection hv
 subst hA
 exact ⟨_,rfl,hlt,h.cells (g:=g) rfl⟩
end
section
variable {P:Program} (w:World)
theorem run_append_of_nil (base:Nat) (t ty e:TypeId) (i:TypeInfo) (size:Nat) (ht:P.underlying t=some (.slice e)) (hi:P.info? e=some i)
  (v:Value) (n:Nat) (xs:List Value) (hown:w.ownsRow base e size v n xs) (c:Nat):(Builtin.append_ #[t,t] ty #[v,.slice none 0 c]).run P w=.ok v w:=by
 rcases hown.2 with ⟨rfl,rfl⟩ | ⟨g,cap,cur,rfl,_,_,hnc,_⟩
 ·simp [Builtin.append_,run_underlying ht,sizeOf,typeInfo,hi,Builtin.lenOf,Builtin.firstCells]
 ·simp [Builtin.append_,run_underlying ht,sizeOf,typeInfo,hi,Builtin.lenOf,Builtin.firstCells,hnc,storeCells]
theorem run_append_any (base:Nat) (t ty e:TypeId) (i:TypeInfo) (z:Value) (size bytes:Nat) (ht:P.underlying t=some (.slice e)) (hi:P.info? e=some i) (hz:i.zero=some z)
  (hsize:i.size=size) (hby:i.bytes=bytes) (hzs:z.cells.size=size) (hsz:0<size)
  (v:Value) (n:Nat) (xs:List Value) (hown:w.ownsRow base e size v n xs)
  (B:Nat) (A:Option Addr) (m c:Nat) (news:List Value) (hr:Reads w B size A m news) (h1:∀ u∈news,u.oneCell'=true)
  (h63:n+m≤maxLen) (hbytes:(n+m)*bytes≤140737488355328) (hbase:base≤w.heap.size) :
  ∃ v' w',(Builtin.append_ #[t,t] ty #[v,.slice A m c]).run P w=.ok v' w'∧w'.ownsRow base e size v' (n+m) (xs++news)∧w.grownBy w' v.ownBlock ∧
   (v'.ownBlock=v.ownBlock∨v'.ownBlock=some w.heap.size):=by
 rcases A with _ | ad
 ·have hm:m=0:=by
   rcases Nat.eq_zero_or_pos m with h0 | h0
   ·exact h0
   ·obtain ⟨ad,h,_⟩:=hr.2 h0
    cases h
  subst hm
  have hn:news=[]:=List.eq_nil_of_length_eq_zero (by simpa using hr.1)
  subst hn
  exact ⟨v,w,run_append_of_nil w base t ty e i size ht hi v n xs hown c,by simpa using hown,World.grownBy.refl w _,.inl rfl⟩
 ·have hcells:∀ j u,news[j]?=some u→w.cell? (ad.add j)=some u:=by
   intro j u hu
   rcases Nat.eq_zero_or_pos m with h0 | h0
   ·subst h0
    have hn:news=[]:=List.eq_nil_of_length_eq_zero (by simpa using hr.1)
    subst hn
    simp at hu
   ·obtain ⟨ad',h,_,hc⟩:=hr.2 h0
    injection h with h
    subst h
    exact hc j u hu
  obtain ⟨v',w',hrun,h2,h3,_,h5⟩:=run_append_own_at (P:=P) w base t ty e i z size bytes ht hi hz hsize hby hzs hsz v n xs hown ad m c news hr.1 hcells h1 h63 hbytes hbase
  exact ⟨v',w',hrun,h2,h3,h5⟩
theorem wp_append_any {o:Oper} {a:Act} {K:Act→World→Prop} {Q:Exit→Act→World→Prop} (s x:Operand) (t:TypeId)
  (ho:o.op=.call { callee:=.builtin .append,args:=#[s,x],argTypes:=#[t,t] })
  (base:Nat) (e:TypeId) (i:TypeInfo) (z:Value) (size bytes:Nat) (ht:P.underlying t=some (.slice e)) (hi:P.info? e=some i) (hz:i.zero=some z)
  (hsize:i.size=size) (hby:i.bytes=bytes) (hzs:z.cells.size=size) (hsz:0<size)
  (v:Value) (n:Nat) (xs:List Value) (hs:a.eval s=v) (hown:w.ownsRow base e size v n xs)
  (B:Nat) (A:Option Addr) (m c:Nat) (news:List Value) (hx:a.eval x=.slice A m c) (hr:Reads w B size A m news) (h1:∀ u∈news,u.oneCell'=true)
  (h63:n+m≤maxLen) (hbytes:(n+m)*bytes≤140737488355328) (hbase:base≤w.heap.size)
  (h:∀ v' w',w'.ownsRow base e size v' (n+m) (xs++news)→w.grownBy w' v.ownBlock→(v'.ownBlock=v.ownBlock∨v'.ownBlock=some w.heap.size)→K (a.put o.dst v') w'):o.wp P a w K Q:=by
 obtain ⟨v',w',hrun,h2,h3,h4⟩:=run_append_any (P:=P) w base t o.type e i z size bytes ht hi hz hsize hby hzs hsz v n xs hown B A m c news hr h1 h63 hbytes hbase
 unfold Oper.wp execOp
 simp only [ho,resolve,invoke,builtin,Sem.run_bind,Sem.run_pure,Result.andThen_ok,List.map_toArray,List.map_cons,List.map_nil,hs,hx,hrun]
 exact h v' w' h2 h3 h4
theorem wpList_append_any {ops:Array Oper} {rest:List Oper} {o:Oper} {a:Act} {Q:Exit→Act→World→Prop} (hgd:o.guard=none) (s x:Operand) (t:TypeId)
  (ho:o.op=.call { callee:=.builtin .append,args:=#[s,x],argTypes:=#[t,t] })
  (base:Nat) (e:TypeId) (i:TypeInfo) (z:Value) (size bytes:Nat) (ht:P.underlying t=some (.slice e)) (hi:P.info? e=some i) (hz:i.zero=some z)
  (hsize:i.size=size) (hby:i.bytes=bytes) (hzs:z.cells.size=size) (hsz:0<size)
  (v:Value) (n:Nat) (xs:List Value) (hs:a.eval s=v) (hown:w.ownsRow base e size v n xs)
  (B:Nat) (A:Option Addr) (m c:Nat) (news:List Value) (hx:a.eval x=.slice A m c) (hr:Reads w B size A m news) (h1:∀ u∈news,u.oneCell'=true)
  (h63:n+m≤maxLen) (hbytes:(n+m)*bytes≤140737488355328) (hbase:base≤w.heap.size)
  (h:∀ v' w',w'.ownsRow base e size v' (n+m) (xs++news)→w.grownBy w' v.ownBlock→(v'.ownBlock=v.ownBlock∨v'.ownBlock=some w.heap.size)→wpList P ops Q rest (a.put o.dst v') w'):wpList P ops Q (o::rest) a w :=
 wpList_plain hgd fun _ hK=>wp_append_any w s x t ho base e i z size bytes ht hi hz hsize hby hzs hsz v n xs hs hown B A m c news hx hr h1 h63 hbytes hbase fun v' w' h2 h3 h4=>hK _ _ (h v' w' h2 h3 h4)
end
end
section
open Go.RowKit Crc
def bv (c:UInt8):Value:=.int .u8 (c.toNat:Int)
theorem ofInt16 (a:BitVec 16):BitVec.ofInt 16 (a.toNat:Int)=a:=by
 rw [BitVec.ofInt_natCast,BitVec.ofNat_toNat,BitVec.setWidth_eq]
theorem wrap_u16 (a:BitVec 16):IntKind.u16.wrap (a.toNat:Int)=a.toNat:=by
 have:=a.isLt
 show (a.toNat:Int) % 65536=_
 omega
theorem bits_xor_u16 (a b:BitVec 16):bits .xor .u16 (a.toNat:Int) (b.toNat:Int)=((a ^^^ b).toNat:Int):=by
 show IntKind.u16.wrap ((BitVec.ofInt 16 (a.toNat:Int) ^^^ BitVec.ofInt 16 (b.toNat:Int)).toNat:Int)=_
 rw [ofInt16,ofInt16,wrap_u16]
theorem bits_and_u16 (a b:BitVec 16):bits .and .u16 (a.toNat:Int) (b.toNat:Int)=((a &&& b).toNat:Int):=by
 show IntKind.u16.wrap ((BitVec.ofInt 16 (a.toNat:Int) &&& BitVec.ofInt 16 (b.toNat:Int)).toNat:Int)=_
 rw [ofInt16,ofInt16,wrap_u16]
theorem bits_or_u16 (a b:BitVec 16):bits .or .u16 (a.toNat:Int) (b.toNat:Int)=((a ||| b).toNat:Int):=by
 show IntKind.u16.wrap ((BitVec.ofInt 16 (a.toNat:Int) ||| BitVec.ofInt 16 (b.toNat:Int)).toNat:Int)=_
 rw [ofInt16,ofInt16,wrap_u16]
theorem shl1_u16 (a:BitVec 16):IntKind.u16.wrap ((a.toNat:Int)*2)=((a <<< 1).toNat:Int):=by
 show ((a.toNat:Int)*2) % 65536=_
 rw [BitVec.toNat_shiftLeft,Nat.shiftLeft_eq]
 omega
theorem up_u16 (c:UInt8):IntKind.u16.wrap (IntKind.u16.wrap (c.toNat:Int)*256)=((up c).toNat:Int):=by
 show ((c.toNat:Int) % 65536*256) % 65536=_
 have h:=c.toBitVec.isLt
 have:(up c).toNat=c.toNat*256:=by
  unfold up
  rw [BitVec.toNat_shiftLeft,Nat.shiftLeft_eq,BitVec.toNat_setWidth]
  have:c.toBitVec.toNat=c.toNat:=rfl
  omega
 rw [this]
 have:c.toNat<256:=h
 omega
theorem msb_u16 (a:BitVec 16):(bits BinOp.and IntKind.u16 (a.toNat:Int) 32768 != 0)=a.msb:=by
 have h:=bits_and_u16 a 0x8000#16
 rw [show ((0x8000#16).toNat:Int)=32768 from rfl] at h
 rw [h]
 have h2:(a &&& 0x8000#16)=if a.msb then 0x8000#16 else 0#16:=by
  apply BitVec.eq_of_getLsbD_eq
  intro i hi
  have:∀ i:Fin 16,(0x8000#16).getLsbD i.1=(i.1 == 15):=by decide
  rw [BitVec.getLsbD_and,this ⟨i,hi⟩]
  by_cases h15:i=15
  ·subst h15
   rw [BitVec.msb_eq_getLsbD_last]
   cases a.getLsbD 15 <;> simp
  ·cases a.msb <;> simp [h15,this ⟨i,hi⟩]
 rw [h2]
 cases a.msb <;> simp
theorem sh_u16_t (a:BitVec 16) (h:(bits BinOp.and IntKind.u16 (a.toNat:Int) 32768 != 0)=true) :
  bits BinOp.xor IntKind.u16 (IntKind.u16.wrap ((a.toNat:Int)*2)) 4129=((sh a).toNat:Int):=by
 rw [msb_u16] at h
 have h1:=bits_xor_u16 (a <<< 1) 0x1021#16
 rw [show ((0x1021#16).toNat:Int)=4129 from rfl] at h1
 rw [shl1_u16,h1,sh,if_pos h]
theorem sh_u16_f (a:BitVec 16) (h:(bits BinOp.and IntKind.u16 (a.toNat:Int) 32768 != 0)=false) :
  IntKind.u16.wrap ((a.toNat:Int)*2)=((sh a).toNat:Int):=by
 rw [msb_u16] at h
 rw [shl1_u16,sh,if_neg (by rw [h]; decide)]
set_option maxHeartbeats 400000 in
theorem step_any (s:BitVec 16) (c:UInt8) (w:World) :
  Calls Tryz.prog 187 #[.int .u16 s.toNat,.int .u8 c.toNat] w fun e w'=>e=.returned (.int .u16 (stp s c).toNat)∧w=w':=by
 go_enter Tryz.func187,Tryz.ntmps187
 go_wp2
 go_loop [0,10] (fun s' i=>∃ k:Nat,k≤8∧i=.int .i64 k∧s'=.int .u16 (shN k (s ^^^ up c)).toNat) (fun _ i=>8 - (intOf i).toNat)
 case atStart =>
  refine ⟨0,by omega,rfl,?_⟩
  rw [up_u16,bits_xor_u16]
  rfl
 case round =>
  obtain ⟨k,hk,rfl,rfl⟩:=hrel
  by_cases hlt:k<8
  ·go_wp2
   ·go_round
    case rel =>
     refine ⟨k+1,by omega,by go_num,?_⟩
     rw [sh_u16_t _ (by assumption),shN_succ']
    case measure=>simp [intOf]; omega
   ·go_round
    case rel =>
     refine ⟨k+1,by omega,by go_num,?_⟩
     rw [sh_u16_f _ (by assumption),shN_succ']
    case measure=>simp [intOf]; omega
  ·obtain rfl:k=8:=by omega
   go_wp2
   go_ret
   exact ⟨rfl,rfl⟩
theorem sum_take (l:List UInt8) (k:Nat) (h:k<l.length):Crc.sum (l.take (k+1))=stp (Crc.sum (l.take k)) l[k]:=by
 rw [List.take_succ_eq_append_getElem h]; exact run_snoc _ _ _
set_option maxHeartbeats 400000 in
theorem sum_any (B:Nat) (A:Option Addr) (n c:Nat) (l:List UInt8) (w:World) (hr:Reads w B 1 A n (l.map bv)) (hn:n≤maxLen) :
  Calls Tryz.prog 143 #[.slice A n c] w fun e w'=>e=.returned (.int .u16 (Crc.sum l).toNat)∧w=w':=by
 have hl:l.length=n:=by simpa using hr.1
 unfold maxLen at hn
 subst hl
 go_enter Tryz.func143,Tryz.ntmps143
 go_wp2
 go_loop [3,5,8] (fun s' _ i=>∃ k:Nat,k≤l.length∧i=.int .i64 k∧s'=.int .u16 (Crc.sum (l.take k)).toNat) (fun _ _ i=>l.length - (intOf i).toNat)
 case atStart =>
  exact ⟨0,by omega,rfl,rfl⟩
 case round =>
  obtain ⟨k,hk,rfl,rfl⟩:=hrel
  by_cases hlt:k<l.length
  ·obtain ⟨ad,u,rfl,_,hx,hc⟩:=hr.at_ hlt
   obtain rfl:u=.int .u8 (l[k].toNat:Int):=by simp [hlt,bv] at hx; exact hx.symm
   have hs:=Lib.hid (sum_take l k hlt)
   clear hx
   go_wp2_with (go_at_call 187; refine (step_any _ _ _).mono ?_; rintro e w' ⟨rfl,rfl⟩)
   go_round
   case rel=>exact ⟨k+1,by omega,by go_num,by rw [hs.out]⟩
   case measure=>simp [intOf]; omega
  ·obtain rfl:k=l.length:=by omega
   go_wp2
   go_ret
   exact ⟨rfl,rfl⟩
theorem reads_new (w:World) (C:Array Value) (e:TypeId) (m:Nat×Nat):Reads (w.alloc (.cells C e m)) (w.heap.size+1) 1 (some ⟨w.heap.size,0,none⟩) C.size C.toList:=by
 refine ⟨by simp,fun _=>⟨_,rfl,by simp,fun j u hu=>?_⟩⟩
 have:(w.alloc (.cells C e m)).heap[w.heap.size]?=some (.cells C e m):=heap_alloc_new w _
 have hj:(Addr.add ⟨w.heap.size,0,none⟩ j)=⟨w.heap.size,j,none⟩:=by unfold Addr.add; split <;> simp_all
 rw [hj]
 simp only [World.cell?,this]
 simpa using hu
end
section
open Go.RowKit Crc
theorem Reads.bytesTake {w:World} {B n:Nat} {A:Option Addr} {l:List UInt8} (h:Reads w B 1 A n (l.map bv)) {k:Nat} (hk:k≤n):Reads w B 1 A k ((l.take k).map bv):=by
 have:=h.take hk
 rw [Nat.mul_one,← List.map_take] at this
 exact this
end
section
open Go.RowKit Crc
def OwnB (w:World) (base:Nat) (A:Option Addr) (k c:Nat) (l:List UInt8):Prop:=w.ownsRow base 5 1 (.slice A k c) k (l.map bv)
section
variable {w w':World} {base k c:Nat} {A:Option Addr} {l:List UInt8}
theorem OwnB.reads (h:OwnB w base A k c l):Reads w w.heap.size 1 A k (l.map bv):=Reads.of_own h
theorem OwnB.length (h:OwnB w base A k c l):l.length=k:=by simpa using h.1
theorem OwnB.bounds (h:OwnB w base A k c l):k≤c∧c≤maxLen:=by
 rcases h.2 with ⟨h0,h1⟩ | ⟨g,cap,cur,h0,_,_,hn,hm,_⟩
 ·injection h0 with _ h2 h3; subst h2 h3; simp
 ·injection h0 with _ _ h3; subst h3; exact ⟨hn,hm⟩
theorem OwnB.nil (w:World) (base:Nat):OwnB w base none 0 0 []:=World.ownsRow_nil _ _ _ _
theorem OwnB.made0 (w:World) {base:Nat} (hb:base≤w.heap.size):OwnB (w.alloc (.cells #[] 5)) base (some ⟨w.heap.size,0,none⟩) 0 0 [] :=
 World.ownsRow_made w #[] 0 hb (by decide) rfl
theorem OwnB.lt (h:OwnB w base A k c l):∀ g,(Value.slice A k c).ownBlock=some g→base≤g∧g<w.heap.size:=World.ownsRow.lt h
theorem OwnB.alloc (h:OwnB w base A k c l) (o:Obj):OwnB (w.alloc o) base A k c l:=World.ownsRow.alloc h o
theorem OwnB.grown (h:OwnB w base A k c l) {row:Option Nat} (hg:w.grownBy w' row) (hne:∀ g,A=some ⟨g,0,none⟩→row≠some g):OwnB w' base A k c l:=by
 obtain ⟨h1,h2⟩:=h
 refine ⟨h1,?_⟩
 rcases h2 with h2 | ⟨g,cap,cur,hv,hb,hh,r⟩
 ·exact .inl h2
 ·refine .inr ⟨g,cap,cur,hv,hb,?_,r⟩
  rw [hg.block g]
  ·exact hh
  ·rcases Nat.lt_or_ge g w.heap.size with h | h
   ·exact h
   ·rw [Array.getElem?_eq_none h] at hh; cases hh
  ·intro e
   injection hv with hv
   exact hne g hv e.symm
theorem OwnB.ltg {g:Nat} (h:OwnB w base (some ⟨g,0,none⟩) k c l):base≤g∧g<w.heap.size:=h.lt g rfl
theorem OwnB.at_ (h:OwnB w base A k c l) {i:Nat} (hi:i<k):∃ g,A=some ⟨g,0,none⟩∧base≤g∧g<w.heap.size∧w.cell? ⟨g,i,none⟩=some (bv (l.getD i 0))∧w.frozen? ⟨g,i,none⟩=false:=by
 have hl:=h.length
 rcases h.2 with ⟨_,h1⟩ | ⟨g,cap,cur,h0,hb,hh,hn,hm,hs,ht⟩
 ·omega
 ·injection h0 with h0 _ _
  subst h0
  have hg:g<w.heap.size:=by
   rcases Nat.lt_or_ge g w.heap.size with h | h
   ·exact h
   ·rw [Array.getElem?_eq_none h] at hh; cases hh
  refine ⟨g,rfl,hb,hg,?_,by simp [World.frozen?,hh]⟩
  rw [cell_of_row w g i cur 5 (0,0) hh]
  have h1:(cur.toList.take (k*1))[i]?=cur[i]?:=by rw [List.getElem?_take,if_pos (by omega)]; simp
  rw [← h1,ht,List.getElem?_map,List.getD_eq_getElem?_getD,List.getElem?_eq_getElem (by omega)]
  rfl
theorem OwnB.get (h:OwnB w base A k c l) {i:Nat} (hi:i<k):∃ g u,A=some ⟨g,0,none⟩∧base≤g∧g<w.heap.size∧l[i]?=some u∧w.cell? ⟨g,i,none⟩=some (.int .u8 (u.toNat:Int))∧w.frozen? ⟨g,i,none⟩=false:=by
 obtain ⟨g,h1,h2,h3,h4,h5⟩:=h.at_ hi
 have hl:=h.length
 have e:l[i]?=some (l.getD i 0):=by rw [List.getD_eq_getElem?_getD,List.getElem?_eq_getElem (by omega)]; rfl
 exact ⟨g,l.getD i 0,h1,h2,h3,e,h4,h5⟩
theorem OwnB.get' {g:Nat} (h:OwnB w base (some ⟨g,0,none⟩) k c l) {i:Nat} (hi:i<k) {u:UInt8} (hu:l[i]?=some u):w.cell? ⟨g,i,none⟩=some (.int .u8 (u.toNat:Int))∧w.frozen? ⟨g,i,none⟩=false:=by
 obtain ⟨g',u',h1,_,_,h4,h5,h6⟩:=h.get hi
 obtain rfl:g=g':=by injection h1 with h; injection h
 rw [hu] at h4
 injection h4 with h4
 subst h4
 exact ⟨h5,h6⟩
end
theorem u8_info:(Tryz.prog.info? 5).map (fun i=>(i.zero,i.size,i.bytes))=some (some (.int .u8 0),1,1):=by kernel_rfl
theorem oneCell_bytes (l:List UInt8):∀ u∈l.map bv,u.oneCell'=true:=by
 intro u hu
 obtain ⟨c,_,rfl⟩:=List.mem_map.1 hu
 rfl
theorem wpList_append_b {w:World} {ops:Array Oper} {rest:List Oper} {o:Oper} {a:Act} {Q:Exit→Act→World→Prop} (hgd:o.guard=none) (s x:Operand)
  (ho:o.op=.call { callee:=.builtin .append,args:=#[s,x],argTypes:=#[23,23] })
  (base:Nat) (A:Option Addr) (k c:Nat) (l:List UInt8) (hs:a.eval s=.slice A k c) (hown:OwnB w base A k c l)
  (B:Nat) (A2:Option Addr) (m c2:Nat) (news:List UInt8) (hx:a.eval x=.slice A2 m c2) (hr:Reads w B 1 A2 m (news.map bv))
  (hbd:k+m≤1000000000) (hbase:base≤w.heap.size)
  (h:∀ (A':Option Addr) (k' c':Nat) (w':World),k'≤k+m→k+m≤k'→OwnB w' base A' k' c' (l++news)→w.grownBy w' (Value.slice A k c).ownBlock →
   ((Value.slice A' k' c').ownBlock=(Value.slice A k c).ownBlock∨(Value.slice A' k' c').ownBlock=some w.heap.size) →
   wpList Tryz.prog ops Q rest (a.put o.dst (.slice A' k' c')) w'):wpList Tryz.prog ops Q (o::rest) a w:=by
 obtain ⟨i0,hi0,hz0,hz1,hz2⟩:=info_parts u8_info
 refine wpList_append_any w hgd s x 23 ho base 5 i0 _ 1 1 Tryz.underlying23 hi0 hz0 hz1 hz2 rfl (by omega) _ k _ hs hown B A2 m c2 _ hx hr (oneCell_bytes _)
  (by simp only [maxLen]; omega) (by omega) hbase ?_
 intro v' w' h1 h2 h3
 rw [← List.map_append] at h1
 have hform:∃ A' c',v'=.slice A' (k+m) c':=by
  rcases h1.2 with ⟨rfl,h0⟩ | ⟨g,cap,cur,rfl,_⟩
  ·exact ⟨none,0,by rw [h0]⟩
  ·exact ⟨_,_,rfl⟩
 obtain ⟨A',c',rfl⟩:=hform
 exact h A' (k+m) c' w' (Nat.le_refl _) (Nat.le_refl _) h1 h2 h3
theorem reads_new_b (w:World) (l:List UInt8) (C:Array Value) (e:TypeId) (m:Nat×Nat) (n:Nat) (hC:C.toList=l.map bv) (hn:n=l.length):Reads (w.alloc (.cells C e m)) (w.heap.size+1) 1 (some ⟨w.heap.size,0,none⟩) n (l.map bv):=by
 have:=reads_new w C e m
 rw [hC] at this
 have hs:C.size=n:=by rw [← Array.length_toList,hC,List.length_map,hn]
 rw [hs] at this
 exact this
theorem hi_toNat (s:BitVec 16):((hi s).toNat:Int)=(s.toNat:Int) / 256:=by
 have h:(hi s).toNat=s.toNat / 256:=by
  unfold hi
  simp only [UInt8.toNat_ofBitVec,BitVec.toNat_setWidth,BitVec.toNat_ushiftRight,Nat.shiftRight_eq_div_pow]
  have:=s.isLt
  omega
 rw [h]; rfl
theorem lo_toNat (s:BitVec 16):((lo s).toNat:Int)=(s.toNat:Int) % 256:=by
 have h:(lo s).toNat=s.toNat % 256:=by
  unfold lo
  simp only [UInt8.toNat_ofBitVec,BitVec.toNat_setWidth]
 rw [h]; rfl
end
section
namespace Fr
open Crc
structure Fd where
 kind:Nat
 size:Nat
 code:Nat
 body:List UInt8
def wait:Fd:=⟨0,0,0,[]⟩
def skip (n:Nat):Fd:=⟨1,n,0,[]⟩
def frame (b:List UInt8):Fd:=⟨2,b.length+5,0,b⟩
def reject (c:Nat):Fd:=⟨3,1,c,[]⟩
def ahead:List UInt8→Nat
 | []=>0
 | c::r=>if c=165 then 0 else ahead r+1
def behind (n:UInt8) (r:List UInt8):Fd :=
 if 32<n.toNat then reject 11 else if r.length<n.toNat+2 then wait else
 if sum ([1,n]++r.take n.toNat)=up (r.getD n.toNat 0) ^^^ low (r.getD (n.toNat+1) 0) then frame (r.take n.toNat) else reject 12
def next:List UInt8→Fd
 | []=>wait
 | [c]=>if c=165 then wait else skip (ahead [c])
 | [c,v]=>if c=165 then if v=1 then wait else reject 10 else skip (ahead [c,v])
 | c::v::n::r=>if c=165 then if v=1 then behind n r else reject 10 else skip (ahead (c::v::n::r))
def put (b:List UInt8):List UInt8 :=
 [165,1,UInt8.ofNat b.length]++b++[hi (sum ([1,UInt8.ofNat b.length]++b)),lo (sum ([1,UInt8.ofNat b.length]++b))]
theorem put_length (b:List UInt8):(put b).length=b.length+5:=by simp [put]
theorem ahead_le (l:List UInt8):ahead l≤l.length:=by
 induction l with
 | nil=>simp [ahead]
 | cons c r ih=>unfold ahead; split <;> simp <;> omega
theorem ahead_append (l m:List UInt8):ahead (l++m)=if ahead l=l.length then l.length+ahead m else ahead l:=by
 induction l with
 | nil=>simp [ahead]
 | cons c r ih =>
  by_cases hc:c=165
  ·have e1:ahead (c::r)=0:=by simp [ahead,hc]
   have e2:ahead ((c::r)++m)=0:=by simp [ahead,hc]
   rw [e1,e2]; simp
  ·have e1:ahead (c::r)=ahead r+1:=by simp [ahead,hc]
   have e2:ahead ((c::r)++m)=ahead (r++m)+1:=by simp [ahead,hc]
   rw [e1,e2,ih]
   by_cases h:ahead r=r.length
   ·simp [h]; omega
   ·simp [h]
theorem behind_cases (n:UInt8) (r:List UInt8):(behind n r=reject 11∧32<n.toNat)∨(behind n r=wait∧n.toNat≤32∧r.length<n.toNat+2) ∨
  (n.toNat≤32∧n.toNat+2≤r.length∧(behind n r=frame (r.take n.toNat)∨behind n r=reject 12)):=by
 unfold behind
 by_cases h1:32<n.toNat
 ·exact .inl ⟨if_pos h1,h1⟩
 ·rw [if_neg h1]
  by_cases h2:r.length<n.toNat+2
  ·exact .inr (.inl ⟨if_pos h2,by omega,h2⟩)
  ·rw [if_neg h2]
   refine .inr (.inr ⟨by omega,by omega,?_⟩)
   split
   ·exact .inl rfl
   ·exact .inr rfl
theorem goes_wait (l:List UInt8) (h:(next l).kind=0):(next l).size=0∧l.length<37:=by
 match l with
 | []=>exact ⟨rfl,by simp⟩
 | [c] =>
  by_cases hc:c=165
  ·simp [next,hc,wait]
  ·simp [next,hc,skip] at h
 | [c,v] =>
  by_cases hc:c=165
  ·by_cases hv:v=1
   ·simp [next,hc,hv,wait]
   ·simp [next,hc,hv,reject] at h
  ·simp [next,hc,skip] at h
 | c::v::n::r =>
  by_cases hc:c=165
  ·by_cases hv:v=1
   ·simp only [next,hc,hv,if_true] at h ⊢
    rcases behind_cases n r with ⟨h1,_⟩ | ⟨h1,h2,h3⟩ | ⟨_,_,h1 | h1⟩
    ·rw [h1] at h; simp [reject] at h
    ·rw [h1]; exact ⟨rfl,by simp; omega⟩
    ·rw [h1] at h; simp [frame] at h
    ·rw [h1] at h; simp [reject] at h
   ·simp [next,hc,hv,reject] at h
  ·simp [next,hc,skip] at h
theorem goes_size (l:List UInt8) (h:(next l).kind≠0):1≤(next l).size∧(next l).size≤l.length:=by
 have hs:∀ (c:UInt8) (r:List UInt8),c≠165→1≤ahead (c::r)∧ahead (c::r)≤(c::r).length:=fun c r hc =>
  ⟨by simp [ahead,hc],ahead_le _⟩
 match l with
 | []=>exact absurd rfl h
 | [c] =>
  by_cases hc:c=165
  ·simp [next,hc,wait] at h
  ·simp only [next,hc,if_false,skip]; exact hs _ _ hc
 | [c,v] =>
  by_cases hc:c=165
  ·by_cases hv:v=1
   ·simp [next,hc,hv,wait] at h
   ·simp [next,hc,hv,reject]
  ·simp only [next,hc,if_false,skip]; exact hs _ _ hc
 | c::v::n::r =>
  by_cases hc:c=165
  ·by_cases hv:v=1
   ·simp only [next,hc,hv,if_true] at h ⊢
    rcases behind_cases n r with ⟨h1,_⟩ | ⟨h1,h2,h3⟩ | ⟨h2,h3,h1 | h1⟩
    ·rw [h1]; simp [reject]
    ·rw [h1] at h; exact absurd rfl h
    ·rw [h1]; simp [frame]; omega
    ·rw [h1]; simp [reject]
   ·simp [next,hc,hv,reject]
  ·simp only [next,hc,if_false,skip]; exact hs _ _ hc
theorem behind_more (n:UInt8) (r m:List UInt8) (h:behind n r≠wait):behind n (r++m)=behind n r:=by
 rcases behind_cases n r with ⟨h1,h2⟩ | ⟨h1,h2,h3⟩ | ⟨h2,h3,_⟩
 ·rw [h1]; unfold behind; rw [if_pos h2]
 ·exact absurd h1 h
 ·unfold behind
  have e1:(r++m).take n.toNat=r.take n.toNat:=by rw [List.take_append_of_le_length (by omega)]
  have e2:(r++m).getD n.toNat 0=r.getD n.toNat 0:=by simp [List.getD_eq_getElem?_getD,List.getElem?_append_left (show n.toNat<r.length by omega)]
  have e3:(r++m).getD (n.toNat+1) 0=r.getD (n.toNat+1) 0:=by simp [List.getD_eq_getElem?_getD,List.getElem?_append_left (show n.toNat+1<r.length by omega)]
  rw [e1,e2,e3]
  have h4:¬ 32<n.toNat:=by omega
  have h5:¬ (r++m).length<n.toNat+2:=by rw [List.length_append]; omega
  have h6:¬ r.length<n.toNat+2:=by omega
  rw [if_neg h4,if_neg h5,if_neg h4,if_neg h6]
theorem goes_more (l m:List UInt8) (h0:(next l).kind≠0) (h1:(next l).kind≠1):next (l++m)=next l:=by
 match l with
 | []=>exact absurd rfl h0
 | [c] =>
  by_cases hc:c=165
  ·simp [next,hc,wait] at h0
  ·simp [next,hc,skip] at h1
 | [c,v] =>
  by_cases hc:c=165
  ·by_cases hv:v=1
   ·simp [next,hc,hv,wait] at h0
   ·match m with
    | []=>simp
    | n::r=>simp [next,hc,hv]
  ·simp [next,hc,skip] at h1
 | c::v::n::r =>
  by_cases hc:c=165
  ·by_cases hv:v=1
   ·simp only [List.cons_append,next,hc,hv,if_true] at h0 ⊢
    exact behind_more n r m (fun e=>h0 (by rw [e]; rfl))
   ·simp [next,hc,hv]
  ·simp [next,hc,skip] at h1
theorem next_skip (l:List UInt8) (h:(next l).kind=1):l≠[]∧l.head?≠some 165∧next l=skip (ahead l):=by
 match l with
 | []=>simp [next,wait] at h
 | [c] =>
  by_cases hc:c=165
  ·simp [next,hc,wait] at h
  ·simp [next,hc]
 | [c,v] =>
  by_cases hc:c=165
  ·by_cases hv:v=1
   ·simp [next,hc,hv,wait] at h
   ·simp [next,hc,hv,reject] at h
  ·simp [next,hc]
 | c::v::n::r =>
  by_cases hc:c=165
  ·by_cases hv:v=1
   ·simp only [next,hc,hv,if_true] at h
    rcases behind_cases n r with ⟨h1,_⟩ | ⟨h1,h2,h3⟩ | ⟨h2,h3,h1 | h1⟩ <;> rw [h1] at h <;> simp [reject,wait,frame] at h
   ·simp [next,hc,hv,reject] at h
  ·simp [next,hc]
theorem next_of_head (c:UInt8) (r:List UInt8) (hc:c≠165):next (c::r)=skip (ahead (c::r)):=by
 match r with
 | []=>simp [next,hc]
 | [v]=>simp [next,hc]
 | v::n::r=>simp [next,hc]
theorem goes_skip (l m:List UInt8) (h:(next l).kind=1):(next (l++m)).kind=1∧(next l).size≤(next (l++m)).size∧((next (l++m)).size=(next l).size∨(next l).size=l.length):=by
 obtain ⟨h1,h2,h3⟩:=next_skip l h
 match l,h1 with
 | c::r,_ =>
  have hc:c≠165:=by simpa using h2
  have e:next (c::r++m)=skip (ahead (c::r++m)):=next_of_head c (r++m) hc
  rw [e,h3]
  refine ⟨rfl,?_,?_⟩
  ·show ahead (c::r)≤ahead (c::r++m)
   rw [ahead_append]; split <;> omega
  ·show ahead (c::r++m)=ahead (c::r)∨ahead (c::r)=(c::r).length
   rw [ahead_append]
   by_cases hh:ahead (c::r)=(c::r).length
   ·exact .inr hh
   ·rw [if_neg hh]; exact .inl rfl
theorem ofNat_toNat (n:Nat) (h:n≤32):(UInt8.ofNat n).toNat=n:=by simp; omega
end Fr
end
section
open Go.RowKit Crc Fr
theorem bcell {W w1:World} (hb:Below W.heap.size W w1):(∀ b o,b<W.heap.size→w1.cell? ⟨b,o,none⟩=W.cell? ⟨b,o,none⟩)∧(∀ b o,b<W.heap.size→w1.frozen? ⟨b,o,none⟩=W.frozen? ⟨b,o,none⟩) :=
 ⟨fun b o h=>hb.cell (p:=⟨b,o,none⟩) h,fun b o h=>hb.frozen (p:=⟨b,o,none⟩) h⟩
set_option maxHeartbeats 400000 in
theorem reject_any (code:Int) (w:World) :
  Calls Tryz.prog 99 #[.int .i64 code] w fun e w'=>e=.returned (.agg #[.int .i64 3,.int .i64 1,.int .i64 code,.slice none 0 0])∧Below w.heap.size w w':=by
 go_enter Tryz.func99,Tryz.ntmps99
 go_wp2
 exact bodyPost_ret (v:=.agg #[.int .i64 3,.int .i64 1,.int .i64 code,.slice none 0 0]) (by simp [results,Tryz.results99,go_sem]) rfl ⟨rfl,(Below.refl _ _).alloc (Nat.le_refl _) _⟩
theorem bytesOf_bv (l:List UInt8):Lib.bytesOf (l.map fun c=>(c.toNat:Int))=l:=by
 unfold Lib.bytesOf
 rw [List.map_map]
 conv=>rhs; rw [← List.map_id l]
 apply List.map_congr_left
 intro c _
 simp
theorem indexByte_ahead (l:List UInt8):Lib.indexByte l 165=if Fr.ahead l=l.length then -1 else (Fr.ahead l:Int):=by
 induction l with
 | nil=>simp [Lib.indexByte,Fr.ahead]
 | cons c r ih =>
  have hle:=ahead_le r
  unfold Lib.indexByte
  rw [ih]
  by_cases hc:c=165
  ·subst hc; simp [Fr.ahead]
  ·have e1:Fr.ahead (c::r)=Fr.ahead r+1:=by simp [Fr.ahead,hc]
   rw [e1]
   by_cases h:Fr.ahead r=r.length
   ·simp [h,hc]
   ·simp [h,hc]
theorem run_index_any (P:Program) (w:World) (B:Nat) (A:Option Addr) (n c:Nat) (l:List UInt8) (hr:Reads w B 1 A n (l.map bv)) (cv:Int) :
  (Extern.BytealgIndexByte.indexByte #[.slice A n c,.int .u8 cv]).run P w=.ok (.int .i64 (Lib.indexByte l cv.toNat.toUInt8)) w:=by
 have hl:l.length=n:=by simpa using hr.1
 rcases A with _ | a
 ·have h0:n=0:=by
   rcases Nat.eq_zero_or_pos n with h | h
   ·exact h
   ·obtain ⟨_,h1,_⟩:=hr.2 h; cases h1
  subst h0
  obtain rfl:l=[]:=List.eq_nil_of_length_eq_zero hl
  exact Lib.run_indexByteNil w 0 c cv
 ·have hcells:∀ j x,(l.map fun c=>(c.toNat:Int))[j]?=some x→w.cell? (a.add j)=some (.int .u8 x):=by
   intro j x hj
   rw [List.getElem?_map,Option.map_eq_some_iff] at hj
   obtain ⟨u,hu,rfl⟩:=hj
   have hjl:=(List.getElem?_eq_some_iff.1 hu).1
   obtain ⟨ad,u',e,_,h2,h3⟩:=hr.at_ (k:=j) (by omega)
   injection e with e
   subst e
   rw [h3]
   rw [List.getElem?_map,hu] at h2
   exact h2.symm
  have hl1:=Lib.run_loadBytesX (P:=P) w (l.map fun c=>(c.toNat:Int)) a .empty hcells
  rw [List.length_map,hl,bytesOf_bv] at hl1
  have hs:=Lib.run_indexByteString (P:=P) ⟨l.toArray⟩ cv w
  have he:(⟨ByteArray.empty.data++l.toArray⟩:ByteArray)=⟨l.toArray⟩:=by
   apply ByteArray.ext
   show (#[]:Array UInt8)++l.toArray=l.toArray
   simp
  rw [he] at hl1
  change Sem.run P (do
   let b←Extern.Bytes.bytesOf (.slice (some a) n c)
   let c←Extern.Bytes.asByte (.int .u8 cv)
   match (List.range b.size).find? fun i=>b[i]! == c with
   | some i=>pure (goInt i)
   | none=>pure (goInt (-1))) w=_
  change Sem.run P (do
   let b←Extern.Bytes.bytesOf (.string ⟨l.toArray⟩)
   let c←Extern.Bytes.asByte (.int .u8 cv)
   match (List.range b.size).find? fun i=>b[i]! == c with
   | some i=>pure (goInt i)
   | none=>pure (goInt (-1))) w=_ at hs
  simp only [Extern.Bytes.bytesOf,Sem.run_bind,Sem.run_pure,hl1,Result.andThen] at hs ⊢
  exact hs
set_option maxHeartbeats 400000 in
theorem index_any (B:Nat) (A:Option Addr) (n c:Nat) (l:List UInt8) (w:World) (hr:Reads w B 1 A n (l.map bv)) :
  Calls Tryz.prog 145 #[.slice A n c,.int .u8 165] w fun e w'=>e=.returned (.int .i64 (if Fr.ahead l=l.length then -1 else (Fr.ahead l:Int)))∧w=w':=by
 have hx:=run_index_any Tryz.prog w B A n c l hr 165
 rw [show ((165:Int).toNat.toUInt8)=165 by decide,indexByte_ahead] at hx
 have HX:=Lib.hid hx
 clear hx hr
 generalize (if Fr.ahead l=l.length then (-1:Int) else (Fr.ahead l:Int))=v at *
 go_enter Tryz.func145,Tryz.ntmps145
 go_wp2
 rw [run_callFunc_extern Tryz.func188 (by kernel_rfl) (by kernel_rfl) (by kernel_rfl) (e:=Extern.BytealgIndexByte.indexByte) (by kernel_rfl),HX.out]
 simp only [Result.andThen]
 rw [Oper.upon_value]
 go_wp2
 go_ret
 exact ⟨rfl,rfl⟩
set_option maxHeartbeats 400000 in
theorem skip_any (B:Nat) (A:Option Addr) (n c:Nat) (l:List UInt8) (w:World) (hr:Reads w B 1 A n (l.map bv)) (hB:B≤w.heap.size) (_hn:n≤maxLen) :
  Calls Tryz.prog 100 #[.slice A n c] w fun e w'=>e=.returned (.agg #[.int .i64 1,.int .i64 (Fr.ahead l:Int),.int .i64 0,.slice none 0 0])∧Below w.heap.size w w':=by
 have hl:l.length=n:=by simpa using hr.1
 have hle:=ahead_le l
 have HR:=Lib.hid (fun o=>hr.alloc hB o)
 clear hr
 by_cases h:Fr.ahead l=l.length
 ·have HI:=Lib.hid (fun w B A n c hr=>index_any B A n c l w hr)
  simp only [if_pos h] at HI
  have HL:=Lib.hid (h.trans hl)
  clear h hl
  rw [HL.out]
  go_enter Tryz.func100,Tryz.ntmps100
  go_wp2_with (go_at_call 145; (with_reducible refine (HI.out _ _ _ _ _ (HR.out _)).mono ?_); rintro e w' ⟨rfl,rfl⟩)
  exact bodyPost_ret (v:=.agg #[.int .i64 1,.int .i64 (n:Int),.int .i64 0,.slice none 0 0]) (by simp [results,Tryz.results100,go_sem]) rfl ⟨rfl,(Below.refl _ _).alloc (Nat.le_refl _) _⟩
 ·have HI:=Lib.hid (fun w B A n c hr=>index_any B A n c l w hr)
  simp only [if_neg h] at HI
  have h1:Fr.ahead l<n:=by omega
  clear h hl hle
  generalize Fr.ahead l=m at *
  go_enter Tryz.func100,Tryz.ntmps100
  go_wp2_with (go_at_call 145; (with_reducible refine (HI.out _ _ _ _ _ (HR.out _)).mono ?_); rintro e w' ⟨rfl,rfl⟩)
  exact bodyPost_ret (v:=.agg #[.int .i64 1,.int .i64 (m:Int),.int .i64 0,.slice none 0 0]) (by simp [results,Tryz.results100,go_sem]) rfl ⟨rfl,(Below.refl _ _).alloc (Nat.le_refl _) _⟩
theorem clone_any (B:Nat) (A:Option Addr) (n c:Nat) (l:List UInt8) (w:World) (hr:Reads w B 1 A n (l.map bv)) (hB:B≤w.heap.size) (_hn:n≤100000000) :
  Calls Tryz.prog 144 #[.slice A n c] w fun e w'=>∃ A' k' c',e=.returned (.slice A' k' c')∧OwnB w' w.heap.size A' k' c' l∧Below w.heap.size w w':=by
 have q22:∀ (w:World) (a:Option Addr) (n c n' c':Nat),(binOp .eql 23 (.slice a n c) (.slice none n' c')).run Tryz.prog w=.ok (.bool a.isNone) w:=fun w a n c n' c'=>Lib.run_eql_slice_nil w _ _ a n c n' c' Tryz.underlying23
 rcases A with _ | a
 ·have h0:n=0:=by
   rcases Nat.eq_zero_or_pos n with h | h
   ·exact h
   ·obtain ⟨_,h1,_⟩:=hr.2 h; cases h1
  subst h0
  have hl:l.length=0:=by simpa using hr.1
  obtain rfl:l=[]:=List.eq_nil_of_length_eq_zero hl
  go_enter Tryz.func144,Tryz.ntmps144
  go_wp2
  go_ret
  exact ⟨none,0,0,rfl,OwnB.nil _ _,Below.refl _ _⟩
 ·go_enter Tryz.func144,Tryz.ntmps144
  go_wp2_with (at_builtin
               refine wpList_append_b rfl (.tmp 5) (.tmp 6) rfl w.heap.size (some ⟨w.heap.size,0,none⟩) 0 0 [] rfl (OwnB.made0 w (Nat.le_refl _)) B (some a) n c l rfl (hr.alloc hB _) (by omega) (by simp) ?_
               intro A1 k1 c1 w1 hk1 hk1' hown1 hg1 hat1
               have hb1:Below w.heap.size w w1:=((Below.refl _ _).alloc (Nat.le_refl _) _).grown hg1 (by simp) (by simp [Value.ownBlock]))
  go_ret
  exact ⟨A1,k1,c1,rfl,by simpa using hown1,hb1⟩
end
section
open Go.RowKit
theorem below_al {w w':World} (h:Below w.heap.size w w') (o:Obj):Below w.heap.size w (w'.alloc o):=h.alloc h.size o
theorem bel_call {w W w1:World} (h:Below w.heap.size w W) (hb:Below W.heap.size W w1):Below w.heap.size w w1:=h.trans (hb.mono h.size)
theorem below_set {w w':World} (h:Below w.heap.size w w') (p:Addr) (u:Value) (hp:w.heap.size≤p.block):Below w.heap.size w (w'.setCell p u):=h.setCell hp u
def sat (n m:Int):Int:=if n<m then n+1 else m
theorem sat_any (n m:Int) (w:World) (hm:m≤5000000000) (hn:-5000000000≤n):Calls Tryz.prog 73 #[.int .i64 n,.int .i64 m] w fun e w'=>e=.returned (.int .i64 (sat n m))∧w=w':=by
 by_cases h:n<m
 ·have e:sat n m=n+1:=by unfold sat; rw [if_pos h]
  rw [e]
  go_enter Tryz.func73,Tryz.ntmps73
  go_wp2
  go_ret
  exact ⟨rfl,rfl⟩
 ·have e:sat n m=m:=by unfold sat; rw [if_neg h]
  rw [e]
  go_enter Tryz.func73,Tryz.ntmps73
  go_wp2
  go_ret
  exact ⟨rfl,rfl⟩
def clamp (n lo hi:Int):Int:=if n<lo then lo else if hi<n then hi else n
theorem clamp_any (n lo hi:Int) (w:World):Calls Tryz.prog 170 #[.int .i64 n,.int .i64 lo,.int .i64 hi] w fun e w'=>e=.returned (.int .i64 (clamp n lo hi))∧w=w':=by
 by_cases h:n<lo
 ·have e:clamp n lo hi=lo:=by unfold clamp; rw [if_pos h]
  rw [e]
  go_enter Tryz.func170,Tryz.ntmps170
  go_wp2
  go_ret
  exact ⟨rfl,rfl⟩
 ·by_cases h2:hi<n
  ·have e:clamp n lo hi=hi:=by unfold clamp; rw [if_neg h,if_pos h2]
   rw [e]
   go_enter Tryz.func170,Tryz.ntmps170
   go_wp2
   go_ret
   exact ⟨rfl,rfl⟩
  ·have e:clamp n lo hi=n:=by unfold clamp; rw [if_neg h,if_neg h2]
   rw [e]
   go_enter Tryz.func170,Tryz.ntmps170
   go_wp2
   go_ret
   exact ⟨rfl,rfl⟩
theorem clamp_in (n m:Int) (hm:0≤m):-m≤clamp n (-m) m∧clamp n (-m) m≤m:=by unfold clamp; split <;> (try split) <;> omega
theorem below_fn (n b:Int) (w:World):Calls Tryz.prog 148 #[.int .i64 n,.int .i64 b] w fun e w'=>e=.returned (.bool (decide (0≤n∧n<b)))∧w=w':=by
 by_cases h:0≤n
 ·by_cases h2:n<b
  ·rw [decide_eq_true ⟨h,h2⟩]
   go_enter Tryz.func148,Tryz.ntmps148
   go_wp2
   go_ret
   exact ⟨rfl,rfl⟩
  ·rw [decide_eq_false (fun x=>h2 x.2)]
   go_enter Tryz.func148,Tryz.ntmps148
   go_wp2
   go_ret
   exact ⟨rfl,rfl⟩
 ·rw [decide_eq_false (fun x=>h x.1)]
  go_enter Tryz.func148,Tryz.ntmps148
  go_wp2
  go_ret
  exact ⟨rfl,rfl⟩
structure Tm where
 at_:Int
 most:Int
structure Tok where
 holder:Int
 epoch:Int
 offer:Int
 oa:Tm
 la:Tm
 bad:Bool
def Tok.endOffer (t:Tok):Tok:={ t with offer:=-1,oa:=⟨0,0⟩ }
end
section
open Go.RowKit
theorem below_dr {w w':World} (h:Below w.heap.size w w'):Below w.heap.size w w'.drew:=⟨h.os,h.tape,h.output,h.size,h.block⟩
def Tok.drop (t:Tok) (src:Int):Tok×Bool:=if 0≤t.offer∧t.offer=src then (t.endOffer,true) else (t,false)
structure Lb where
 rule:Int
 src:Int
 seq:Int
structure Pt where
 cls:Int
 t0:Int
 t1:Int
 t2:Int
 t3:Int
 n0:Int
 n1:Int
 n2:Int
 n3:Int
 by_:Lb
end
end Go.Proofs.YtdgejnakakjgfaaGreatDoor
