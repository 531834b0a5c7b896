/- A symbolic executor: its values, its states, its steps. -/
import Derived.Orders
import Derived.LoopN
set_option linter.unusedVariables false
set_option linter.unusedSimpArgs false
set_option maxRecDepth 100000
namespace Go.Proofs.YtdgejnakakjgfaaGreatDoor
section
namespace SE
inductive SI where
 | r (lo hi:Int)
 | a (id:Nat)
inductive Cmp where
 | eq | ne | lt | le | gt | ge
inductive SV where
 | u
 | int (k:IntKind) (x:SI)
 | tt | ff | bool
 | cmp (c:Cmp) (id:Nat) (n:Int)
 | ptr (b off:Nat) | nilp
 | sp (id:Nat) | sq (id:Nat)
 | gp (g off:Nat)
 | slc (b off len cap:Nat) | nils | sl (id:Nat)
 | agg (l:List SV) | tup (l:List SV)
 | func (fn:Fn) (first cap:List SV) | nilf
 | iface (t:Nat) (v:SV) | nili
 | mapv (b:Nat)
def SI.beq:SI→SI→Bool
 | .r x1 y1,.r x2 y2=>decide (x1=x2)&&decide (y1=y2)
 | .a i,.a j=>Nat.beq i j
 | _,_=>false
def Cmp.toNat:Cmp→Nat
 | .eq=>0 | .ne=>1 | .lt=>2 | .le=>3 | .gt=>4 | .ge=>5
def kN:IntKind→Nat
 | .i8=>0 | .i16=>1 | .i32=>2 | .i64=>3 | .u8=>4 | .u16=>5 | .u32=>6 | .u64=>7
def SV.beqC:SV→SV→Bool
 | .u,.u=>true
 | .int k x,.int l y=>Nat.beq (kN k) (kN l)&&x.beq y
 | .tt,.tt=>true
 | .ff,.ff=>true
 | .bool,.bool=>true
 | .cmp c i n,.cmp d j m=>Nat.beq c.toNat d.toNat&&(Nat.beq i j&&decide (n=m))
 | .ptr b o,.ptr c p=>Nat.beq b c&&Nat.beq o p
 | .nilp,.nilp=>true
 | .sp i,.sp j=>Nat.beq i j
 | .sq i,.sq j=>Nat.beq i j
 | .gp b o,.gp c p=>Nat.beq b c&&Nat.beq o p
 | .slc a b c d,.slc e f g h=>Nat.beq a e&&(Nat.beq b f&&(Nat.beq c g&&Nat.beq d h))
 | .nils,.nils=>true
 | .sl i,.sl j=>Nat.beq i j
 | .nilf,.nilf=>true
 | .nili,.nili=>true
 | .mapv b,.mapv c=>Nat.beq b c
 | _,_=>false
def SV.beqCs:List SV→List SV→Bool
 | [],[]=>true
 | a::l,b::m=>SV.beqC a b&&SV.beqCs l m
 | _,_=>false
def SV.beqV (x y:SV):Bool :=
 match x,y with
 | .agg l,.agg m=>SV.beqCs l m
 | .func f a b,.func g c d=>decide (f=g)&&(SV.beqCs a c&&SV.beqCs b d)
 | x,y=>SV.beqC x y
def SV.beqVs:List SV→List SV→Bool
 | [],[]=>true
 | a::l,b::m=>SV.beqV a b&&SV.beqVs l m
 | _,_=>false
def SV.beq (x y:SV):Bool :=
 match x,y with
 | .agg l,.agg m=>SV.beqCs l m
 | .tup l,.tup m=>SV.beqVs l m
 | .func f a b,.func g c d=>decide (f=g)&&(SV.beqCs a c&&SV.beqCs b d)
 | .iface t v,.iface s w=>Nat.beq t s&&SV.beqV v w
 | x,y=>SV.beqC x y
def SV.beqL:List SV→List SV→Bool
 | [],[]=>true
 | a::l,b::m=>SV.beq a b&&SV.beqL l m
 | _,_=>false
inductive Tr (α:Type) where
 | lf
 | nd (v:Option α) (l r:Tr α)
def Tr.get {α:Type}:Tr α→Nat→Option α
 | .lf,_=>none
 | .nd v l r,k=>bif Nat.beq k 0 then v else bif Nat.beq (k % 2) 1 then l.get (k / 2) else r.get (k / 2 - 1)
inductive UD where
 | bool | int (k:IntKind) | ptr (e:Nat) | slice (e:Nat) | arr (n e:Nat) | str (fs:List (Nat×Nat)) | map (k e:Nat) | func | iface | other
structure TY where
 und:UD
 size:Nat
 bytes:Nat
 zero:List SV
def lk {α:Type}:List (Nat×α)→Nat→Option α
 | [],_=>none
 | (i,x)::t,k=>bif Nat.beq i k then some x else lk t k
def upd {α:Type}:List (Nat×α)→Nat→α→List (Nat×α)
 | [],k,y=>[(k,y)]
 | (i,x)::t,k,y=>bif Nat.beq i k then (k,y)::t else (i,x)::upd t k y
def del {α:Type}:List (Nat×α)→Nat→List (Nat×α)
 | [],_=>[]
 | (i,x)::t,k=>bif Nat.beq i k then del t k else (i,x)::del t k
inductive Blk where
 | cells (e:Nat) (cs:List SV)
 | row (e sz sid:Nat) (cs:List SV)
 | map (es:List (Int×SV))
 | opq
 | ro (e:Nat) (cs:List SV)
 | res (nm:Nat) (xs:List Nat) (args:List SV)
def Blk.wr:Blk→Bool
 | .opq | .ro ..=>false
 | _=>true
def Blk.isRo:Blk→Bool
 | .ro ..=>true
 | _=>false
inductive SlI where
 | bytes (len:SI)
 | row (b len:Nat)
 | own (b nm:Nat) (args:List SV)
structure St where
 heap:List (Nat×Blk)
 tab:List (Nat×Int×Int)
 sls:List (Nat×SlI)
 nid:Nat
 facts:List (Nat×List SV)
abbrev Out:=List (SV×St)
structure Tb where
 ty:Tr TY
 fn:Tr Func
 gl:Nat→Option (List SV)
 eqt:Nat→Bool
 pkB:Nat→Bool
 pk:Nat→List SV→St→Option SV
 rkB:Nat→Bool
 rk:Nat→List SV→St→Option SV
 k:Nat→List SV→St→Option (Option Out)
 inv:Nat→String→Option (Nat×Option Nat)
 pre:Nat→List SV→St→List (Nat×Nat×Nat×List SV)
 emp:Nat→List SV→Bool
 nameB:Bool
 ownE:Nat→Option (Nat×Nat)
 app:Nat→List SV→List SV→St→Option (List SV)
 split:Nat→Option Nat
 join:Nat→Bool
 ik:Nat→Bool
def fN {α:Type} (n:Nat) (k:Nat→α):α :=
 match n+1 with
 | 0=>k n
 | m+1=>k m
def fI {α:Type} (n:Int) (k:Int→α):α :=
 match n with
 | .ofNat m=>fN m fun m=>k (.ofNat m)
 | .negSucc m=>fN m fun m=>k (.negSucc m)
def fSI {α:Type} (x:SI) (k:SI→α):α :=
 match x with
 | .r lo hi=>fI lo fun lo=>fI hi fun hi=>k (.r lo hi)
 | .a id=>fN id fun id=>k (.a id)
def fK {α:Type} (x:IntKind) (k:IntKind→α):α :=
 match x with
 | .i8=>k .i8 | .i16=>k .i16 | .i32=>k .i32 | .i64=>k .i64 | .u8=>k .u8 | .u16=>k .u16 | .u32=>k .u32 | .u64=>k .u64
def fC {α:Type} (x:SV) (k:SV→α):α :=
 match x with
 | .u=>k .u
 | .int j i=>fK j fun j=>fSI i fun i=>k (.int j i)
 | .tt=>k .tt
 | .ff=>k .ff
 | .bool=>k .bool
 | .cmp c id n=>fN id fun id=>fI n fun n=>k (.cmp c id n)
 | .ptr b o=>fN b fun b=>fN o fun o=>k (.ptr b o)
 | .nilp=>k .nilp
 | .sp i=>fN i fun i=>k (.sp i)
 | .sq i=>fN i fun i=>k (.sq i)
 | .gp b o=>fN b fun b=>fN o fun o=>k (.gp b o)
 | .slc b o l c=>fN b fun b=>fN o fun o=>fN l fun l=>fN c fun c=>k (.slc b o l c)
 | .nils=>k .nils
 | .sl i=>fN i fun i=>k (.sl i)
 | .agg l=>k (.agg l)
 | .tup l=>k (.tup l)
 | .func f a b=>k (.func f a b)
 | .nilf=>k .nilf
 | .iface t v=>k (.iface t v)
 | .nili=>k .nili
 | .mapv b=>fN b fun b=>k (.mapv b)
def fCs {α:Type} (x:List SV) (k:List SV→α):α :=
 match x with
 | []=>k []
 | v::l=>fC v fun v=>fCs l fun l=>k (v::l)
def fV2 {α:Type} (x:SV) (k:SV→α):α :=
 fC x fun x=>match x with
 | .agg l=>fCs l fun l=>k (.agg l)
 | .func f a b=>fCs a fun a=>fCs b fun b=>k (.func f a b)
 | x=>k x
def fL {α:Type} (x:List SV) (k:List SV→α):α :=
 match x with
 | []=>k []
 | v::l=>fV2 v fun v=>fL l fun l=>k (v::l)
def fV {α:Type} (x:SV) (k:SV→α):α :=
 fC x fun x=>match x with
 | .agg l=>fCs l fun l=>k (.agg l)
 | .tup l=>fL l fun l=>k (.tup l)
 | .func f a b=>fCs a fun a=>fCs b fun b=>k (.func f a b)
 | .iface t v=>fN t fun t=>fV2 v fun v=>k (.iface t v)
 | x=>k x
def fS {β α:Type} (x:List β) (k:List β→α):α :=
 match x with
 | []=>k []
 | v::l=>fS l fun l=>k (v::l)
def fT {α:Type} (x:List (Nat×Int×Int)) (k:List (Nat×Int×Int)→α):α :=
 match x with
 | []=>k []
 | (i,a,b)::l=>fN i fun i=>fI a fun a=>fI b fun b=>fT l fun l=>k ((i,a,b)::l)
def fSl {α:Type} (x:SlI) (k:SlI→α):α :=
 match x with
 | .bytes l=>fSI l fun l=>k (.bytes l)
 | .row b n=>fN b fun b=>fN n fun n=>k (.row b n)
 | .own b n l=>fN b fun b=>fN n fun n=>fCs l fun l=>k (.own b n l)
def fSls {α:Type} (x:List (Nat×SlI)) (k:List (Nat×SlI)→α):α :=
 match x with
 | []=>k []
 | (i,a)::l=>fN i fun i=>fSl a fun a=>fSls l fun l=>k ((i,a)::l)
def fBlk {α:Type} (x:Blk) (k:Blk→α):α :=
 match x with
 | .cells e cs=>fN e fun e=>fS cs fun cs=>k (.cells e cs)
 | .row e sz sid cs=>fN e fun e=>fN sz fun sz=>fN sid fun sid=>fS cs fun cs=>k (.row e sz sid cs)
 | .map es=>k (.map es)
 | .opq=>k .opq
 | .ro e cs=>fN e fun e=>fS cs fun cs=>k (.ro e cs)
 | .res n xs args=>k (.res n xs args)
def fH {α:Type} (x:List (Nat×Blk)) (k:List (Nat×Blk)→α):α :=
 match x with
 | []=>k []
 | (i,a)::l=>fN i fun i=>fBlk a fun a=>fH l fun l=>k ((i,a)::l)
def fSt {α:Type} (x:St) (k:St→α):α :=
 match x with
 | ⟨h,t,s,n,f⟩=>fH h fun h=>fT t fun t=>fSls s fun s=>fN n fun n=>fS f fun f=>k ⟨h,t,s,n,f⟩
def fHs {α:Type} (x:List (Nat×Blk)) (k:List (Nat×Blk)→α):α :=
 match x with
 | []=>k []
 | (i,a)::l=>fHs l fun l=>k ((i,a)::l)
def fH1 {α:Type} (x:List (Nat×Blk)) (k:List (Nat×Blk)→α):α :=
 match x with
 | []=>k []
 | (i,a)::l=>fN i fun i=>fBlk a fun a=>fHs l fun l=>k ((i,a)::l)
def fBlkF {α:Type} (x:Blk) (k:Blk→α):α :=
 match x with
 | .cells e cs=>bif Nat.ble cs.length 40 then fN e fun e=>fCs cs fun cs=>k (.cells e cs) else k (.cells e cs)
 | .row e sz sid cs=>fN e fun e=>fN sz fun sz=>fN sid fun sid=>fCs cs fun cs=>k (.row e sz sid cs)
 | .map es=>k (.map es)
 | .opq=>k .opq
 | .ro e cs=>k (.ro e cs)
 | .res n xs args=>k (.res n xs args)
def fHF {α:Type} (x:List (Nat×Blk)) (k:List (Nat×Blk)→α):α :=
 match x with
 | []=>k []
 | (i,a)::l=>fN i fun i=>fBlkF a fun a=>fHF l fun l=>k ((i,a)::l)
def fFs {α:Type} (x:List (Nat×List SV)) (k:List (Nat×List SV)→α):α :=
 match x with
 | []=>k []
 | (i,a)::l=>fN i fun i=>bif Nat.ble a.length 8 then fCs a fun a=>fFs l fun l=>k ((i,a)::l) else fFs l fun l=>k ((i,a)::l)
def fStK {α:Type} (x:St) (k:St→α):α :=
 match x with
 | ⟨h,t,s,n,f⟩=>fHF h fun h=>fT t fun t=>fSls s fun s=>fN n fun n=>fFs f fun f=>k ⟨h,t,s,n,f⟩
def fStM {α:Type} (x:St) (k:St→α):α :=
 match x with
 | ⟨h,t,s,n,f⟩=>fH1 h fun h=>fSls s fun s=>fN n fun n=>k ⟨h,t,s,n,f⟩
def fStT {α:Type} (x:St) (k:St→α):α :=
 match x with
 | ⟨h,t,s,n,f⟩=>fT t fun t=>k ⟨h,t,s,n,f⟩
def kmin:IntKind→Int
 | .i8=>-128 | .i16=>-32768 | .i32=>-2147483648 | .i64=>-9223372036854775808 | _=>0
def kmax:IntKind→Int
 | .i8=>127 | .i16=>32767 | .i32=>2147483647 | .i64=>9223372036854775807
 | .u8=>255 | .u16=>65535 | .u32=>4294967295 | .u64=>18446744073709551615
def kbits:IntKind→Nat
 | .i8 | .u8=>8
 | .i16 | .u16=>16
 | .i32 | .u32=>32
 | .i64 | .u64=>64
def eqK (j k:IntKind):Bool:=Nat.beq (kN j) (kN k)
def inK (k:IntKind) (lo hi:Int):Bool:=decide (kmin k≤lo)&&decide (hi≤kmax k)
def full (k:IntKind):SV:=.int k (.r (kmin k) (kmax k))
def mk (k:IntKind) (lo hi:Int):SV:=bif inK k lo hi then .int k (.r lo hi) else full k
def rng (st:St):SV→Option (IntKind×Int×Int)
 | .int k (.r lo hi)=>some (k,lo,hi)
 | .int k (.a id)=>match lk st.tab id with
  | some (lo,hi)=>some (k,lo,hi)
  | none=>none
 | _=>none
def rngI (st:St):SI→Option (Int×Int)
 | .r lo hi=>some (lo,hi)
 | .a id=>lk st.tab id
def cst (st:St) (v:SV):Option Int :=
 match rng st v with
 | some (_,lo,hi)=>bif decide (lo=hi) then some lo else none
 | none=>none
def cstN (st:St) (v:SV):Option Nat :=
 match cst st v with
 | some (.ofNat n)=>some n
 | _=>none
def cmpI (c:Cmp) (l1 h1 l2 h2:Int):Option Bool :=
 match c with
 | .lt=>bif decide (h1<l2) then some true else bif decide (h2≤l1) then some false else none
 | .le=>bif decide (h1≤l2) then some true else bif decide (h2<l1) then some false else none
 | .gt=>bif decide (h2<l1) then some true else bif decide (h1≤l2) then some false else none
 | .ge=>bif decide (h2≤l1) then some true else bif decide (h1<l2) then some false else none
 | .eq=>bif decide (h1<l2)||decide (h2<l1) then some false else bif decide (l1=h1)&&(decide (l2=h2)&&decide (l1=l2)) then some true else none
 | .ne=>bif decide (h1<l2)||decide (h2<l1) then some true else bif decide (l1=h1)&&(decide (l2=h2)&&decide (l1=l2)) then some false else none
def Cmp.neg:Cmp→Cmp
 | .eq=>.ne | .ne=>.eq | .lt=>.ge | .le=>.gt | .gt=>.le | .ge=>.lt
def Cmp.swap:Cmp→Cmp
 | .eq=>.eq | .ne=>.ne | .lt=>.gt | .le=>.ge | .gt=>.lt | .ge=>.le
def ofB (b:Bool):SV:=bif b then .tt else .ff
def evalB (st:St):SV→Option Bool
 | .tt=>some true
 | .ff=>some false
 | .cmp c id n=>match lk st.tab id with
  | some (lo,hi)=>cmpI c lo hi n n
  | none=>none
 | _=>none
def isB:SV→Bool
 | .tt | .ff | .bool | .cmp ..=>true
 | _=>false
def cmpSame:Cmp→SV
 | .eq | .le | .ge=>.tt
 | _=>.ff
def cmpSV (st:St) (c:Cmp) (x y:SV):Option SV :=
 match rng st x,rng st y with
 | some (k1,l1,h1),some (k2,l2,h2) =>
  bif eqK k1 k2 then
   match cmpI c l1 h1 l2 h2 with
   | some b=>some (ofB b)
   | none =>
    match x,y with
    | .int _ (.a i),.int _ (.a j)=>bif Nat.beq i j then some (cmpSame c) else some .bool
    | .int _ (.a i),_=>bif decide (l2=h2) then some (.cmp c i l2) else some .bool
    | _,.int _ (.a j)=>bif decide (l1=h1) then some (.cmp c.swap j l1) else some .bool
    | _,_=>some .bool
  else none
 | _,_=>none
def mn (a b:Int):Int:=bif decide (a≤b) then a else b
def mx (a b:Int):Int:=bif decide (a≤b) then b else a
def pow2 (n:Nat):Int:=Int.ofNat (2 ^ n)
def nbits (a b:Nat):Nat:=bif Nat.ble a 255&&Nat.ble b 255 then 8 else bif Nat.ble a 65535&&Nat.ble b 65535 then 16 else bif Nat.ble a 16777215&&Nat.ble b 16777215 then 24 else bif Nat.ble a 4294967295&&Nat.ble b 4294967295 then 32 else 64
def arith (op:BinOp) (k:IntKind) (l1 h1 l2 h2:Int):Option SV :=
 match op with
 | .add=>some (mk k (l1+l2) (h1+h2))
 | .sub=>some (mk k (l1 - h2) (h1 - l2))
 | .mul=>bif decide (0≤l1)&&decide (0≤l2) then some (mk k (l1*l2) (h1*h2)) else some (full k)
 | .and=>bif decide (l1=h1)&&(decide (l2=h2)&&(decide (0≤l1)&&(decide (0≤l2)&&(decide (h1≤kmax k)&&decide (h2≤kmax k)))))
   then some (.int k (.r (Int.ofNat (l1.toNat &&& l2.toNat)) (Int.ofNat (l1.toNat &&& l2.toNat))))
   else bif decide (0≤l2)&&decide (h2≤kmax k) then some (.int k (.r 0 h2)) else some (full k)
 | .or=>bif decide (0≤l1)&&(decide (0≤l2)&&(decide (h1≤kmax k)&&decide (h2≤kmax k))) then some (mk k 0 (pow2 (nbits h1.toNat h2.toNat) - 1)) else some (full k)
 | .xor | .andNot=>some (full k)
 | .rem=>bif decide (1≤l2) then (bif decide (l1=h1)&&decide (l2=h2) then some (.int k (.r (Int.tmod l1 l2) (Int.tmod l1 l2))) else bif decide (0≤l1) then some (.int k (.r 0 (mn h1 (h2 - 1)))) else some (.int k (.r (-(h2 - 1)) (h2 - 1)))) else none
 | .quo=>bif decide (1≤l2) then (bif decide (l1=h1)&&decide (l2=h2) then some (mk k (Int.tdiv l1 l2) (Int.tdiv l1 l2)) else bif decide (0≤l1) then some (mk k 0 h1) else some (full k)) else none
 | _=>none
def shiftS (op:BinOp) (k:IntKind) (l1 h1 l2 h2:Int):Option SV :=
 bif decide (0≤l2) then
  match op with
  | .shl=>bif decide (l2=h2)&&(decide (0≤l1)&&Nat.blt l2.toNat (kbits k)) then some (mk k (l1*pow2 l2.toNat) (h1*pow2 l2.toNat)) else some (full k)
  | .shr=>bif decide (0≤l1) then
    (bif decide (l2=h2)&&Nat.blt l2.toNat (kbits k) then some (.int k (.r (l1 / pow2 l2.toNat) (h1 / pow2 l2.toNat))) else some (.int k (.r 0 h1)))
    else none
  | _=>none
 else none
def cmpOf:BinOp→Option Cmp
 | .eql=>some .eq | .neq=>some .ne | .lss=>some .lt | .leq=>some .le | .gtr=>some .gt | .geq=>some .ge
 | _=>none
def nilB:SV→Option Bool
 | .ptr .. | .sp _ | .sq _ | .gp ..=>some false
 | .nilp=>some true
 | .func ..=>some false
 | .nilf=>some true
 | .nili=>some true
 | .iface ..=>some false
 | .nils=>some true
 | .slc ..=>some false
 | _=>none
def isNil:SV→Bool
 | .nilp | .nilf | .nili | .nils=>true
 | _=>false
def isCell:SV→Bool
 | .u | .agg _ | .tup _=>false
 | _=>true
def allCell:List SV→Bool
 | []=>true
 | v::l=>isCell v&&allCell l
def cellsOf:SV→List SV
 | .agg l=>l
 | v=>[v]
def takeL {α:Type}:Nat→List α→Option (List α)
 | 0,_=>some []
 | n+1,[]=>none
 | n+1,x::l=>match takeL n l with
  | some m=>some (x::m)
  | none=>none
def dropL {α:Type}:Nat→List α→List α
 | 0,l=>l
 | n+1,[]=>[]
 | n+1,_::l=>dropL n l
def cut {α:Type} (off n:Nat) (l:List α):Option (List α):=takeL n (dropL off l)
def over:List SV→List SV→Option (List SV)
 | l,[]=>some l
 | [],_::_=>none
 | _::l,y::ys=>match over l ys with
  | some m=>some (y::m)
  | none=>none
def splice:Nat→List SV→List SV→Option (List SV)
 | 0,l,ys=>over l ys
 | n+1,[],ys=>none
 | n+1,x::l,ys=>match splice n l ys with
  | some m=>some (x::m)
  | none=>none
def isAggT:UD→Bool
 | .str _ | .arr ..=>true
 | _=>false
def nth {α:Type}:List α→Nat→Option α
 | [],_=>none
 | x::_,0=>some x
 | _::l,n+1=>nth l n
def partS (y:TY) (cs:List SV) (off:Nat):Option SV :=
 bif isAggT y.und then
  match cut off y.size cs with
  | some l=>some (.agg l)
  | none=>none
 else nth cs off
def ofV:Value→SV
 | .bool true=>.tt
 | .bool false=>.ff
 | .int k n=>.int k (.r n n)
 | .pointer none=>.nilp
 | .slice none 0 0=>.nils
 | .nilFunc=>.nilf
 | .nilIface=>.nili
 | _=>.u
inductive TT where
 | lf
 | nd (v:SV) (l r:TT)
def TT.get:TT→Nat→SV
 | .lf,_=>.u
 | .nd v l r,n=>bif Nat.beq n 0 then v else bif Nat.beq (n % 2) 1 then l.get (n / 2) else r.get (n / 2 - 1)
def TT.set:TT→Nat→SV→TT
 | .lf,_,_=>.lf
 | .nd x l r,n,v=>bif Nat.beq n 0 then .nd v l r else bif Nat.beq (n % 2) 1 then .nd x (l.set (n / 2) v) r else .nd x l (r.set (n / 2 - 1) v)
def setK {α:Type} (t:TT) (n:Nat) (v:SV) (k:TT→α):α :=
 match t with
 | .lf=>k .lf
 | .nd x l r=>bif Nat.beq n 0 then k (.nd v l r) else bif Nat.beq (n % 2) 1 then setK l (n / 2) v fun l=>k (.nd x l r) else setK r (n / 2 - 1) v fun r=>k (.nd x l r)
def TT.beq:TT→TT→Bool
 | .lf,.lf=>true
 | .nd v l r,.nd w m s=>SV.beq v w&&(l.beq m&&r.beq s)
 | _,_=>false
def TT.has:TT→Nat→Bool
 | .lf,_=>false
 | .nd _ l r,n=>bif Nat.beq n 0 then true else bif Nat.beq (n % 2) 1 then l.has (n / 2) else r.has (n / 2 - 1)
def mkT (nt:Nat):Nat→Nat→Nat→TT
 | 0,_,_=>.lf
 | f+1,x,y=>bif Nat.blt y nt then .nd .u (mkT nt f (2*x) (x+y)) (mkT nt f (2*x) (2*x+y)) else .lf
def fillT {α:Type}:Nat→List SV→TT→(TT→α)→α
 | _,[],t,k=>k t
 | i,v::l,t,k=>setK t i v fun t=>fN (i+1) fun i=>fillT i l t k
def rho (tm:TT):Operand→SV
 | .tmp t=>tm.get t
 | .const v=>ofV v
 | .global g=>.gp g 0
 | .func f=>.func (.func f) [] []
def rhoL (tm:TT):List Operand→List SV
 | []=>[]
 | x::l=>rho tm x::rhoL tm l
def okCells:SV→Bool
 | .agg _=>true
 | v=>isCell v
def fillS (place:Nat→Option (Nat×Nat)):List SV→List (Nat×SV)→Option (List SV)
 | cs,[]=>some cs
 | cs,(i,v)::rest =>
  match place i with
  | none=>none
  | some (off,size)=>bif okCells v&&Nat.beq (cellsOf v).length size then (match splice off cs (cellsOf v) with
    | some cs'=>fillS place cs' rest
    | none=>none) else none
def rhoP (tm:TT):List (Nat×Operand)→List (Nat×SV)
 | []=>[]
 | (i,x)::l=>(i,rho tm x)::rhoP tm l
def placeS (T:Tb) (y:TY):Nat→Option (Nat×Nat):=fun i =>
 match y.und with
 | .str fs=>match nth fs i with
  | some (t,off)=>match T.ty.get t with
   | some f=>some (off,f.size)
   | none=>none
  | none=>none
 | .arr _ e=>match T.ty.get e with
  | some f=>some (i*f.size,f.size)
  | none=>none
 | .slice e=>match T.ty.get e with
  | some f=>some (i*f.size,f.size)
  | none=>none
 | _=>none
def knownF (T:Tb):List (Nat×Nat)→Bool
 | []=>true
 | (t,_)::l=>(T.ty.get t).isSome&&knownF T l
def knownT (T:Tb):UD→Bool
 | .str fs=>knownF T fs
 | .arr _ e=>(T.ty.get e).isSome
 | _=>false
def notM:SV→Option SV
 | .tt=>some .ff
 | .ff=>some .tt
 | .bool=>some .bool
 | .cmp c i n=>some (.cmp c.neg i n)
 | _=>none
def isPt:SV→Bool
 | .ptr .. | .nilp | .sp _ | .sq _ | .gp ..=>true
 | _=>false
def shapeS:List SV→List SV→Bool
 | [],[]=>true
 | .int k _::l,.int j _::m=>eqK j k&&shapeS l m
 | .ff::l,v::m=>isB v&&shapeS l m
 | _,_=>false
def isShift:BinOp→Bool
 | .shl | .shr=>true
 | _=>false
def eqOf:BinOp→Option Bool
 | .eql=>some true
 | .neq=>some false
 | _=>none
def binQ (T:Tb) (q:Bool) (t:Nat) (x y:SV):Option SV :=
 match T.ty.get t with
 | none=>none
 | some ty =>
  bif isNil y then
   (match ty.und,nilB x with
   | .ptr _,some b=>bif isPt x&&isPt y then some (ofB (bif q then b else !b)) else none
   | _,_=>none)
  else
   (match x,y with
   | .agg l,.agg m=>bif T.eqt t&&(shapeS ty.zero l&&shapeS ty.zero m) then some .bool else none
   | _,_=>none)
def slQ (T:Tb) (st:St) (q:Bool) (t:Nat) (x y:SV):Option SV :=
 match y with
 | .nils=>match T.ty.get t with
  | some ty=>match ty.und with
   | .slice _=>match x with
    | .nils=>some (ofB q)
    | .slc ..=>some (ofB (!q))
    | .sl i=>match lk st.sls i with
     | some (.row ..)=>some (ofB (!q))
     | some (.bytes _)=>some .bool
     | _=>none
    | _=>none
   | _=>none
  | none=>none
 | _=>none
def binS (T:Tb) (st:St) (op:BinOp) (t:Nat) (x y:SV):Option SV :=
 match rng st x,rng st y with
 | some (k1,l1,h1),some (k2,l2,h2) =>
  bif isShift op then shiftS op k1 l1 h1 l2 h2
  else match cmpOf op with
   | some c=>cmpSV st c x y
   | none=>bif eqK k1 k2 then arith op k1 l1 h1 l2 h2 else none
 | _,_=>match eqOf op with
  | some q=>match slQ T st q t x y with
   | some r=>some r
   | none=>binQ T q t x y
  | none=>none
def convS (T:Tb) (st:St) (dst:Nat) (x:SV):Option SV :=
 match T.ty.get dst with
 | some ty=>match ty.und with
  | .int k=>match x with
   | .int j i=>match rngI st i with
    | some (lo,hi)=>bif inK k lo hi then some (.int k i) else some (full k)
    | none=>none
   | _=>none
  | _=>none
 | none=>none
def fieldS (T:Tb) (t f:Nat):Option (TY×Nat) :=
 match T.ty.get t with
 | some ty=>match ty.und with
  | .str fs=>match nth fs f with
   | some (ft,off)=>match T.ty.get ft with
    | some y=>some (y,off)
    | none=>none
   | none=>none
  | _=>none
 | none=>none
def optC (st:St):Option SV→Option (Option Nat)
 | none=>some none
 | some v=>match cstN st v with
  | some n=>some (some n)
  | none=>none
def optS (tm:TT):Option Operand→Option SV
 | none=>none
 | some x=>some (rho tm x)
def boundsC (len cap:Nat):Option Nat→Option Nat→Option Nat→Option (Nat×Nat×Nat)
 | lo,hi,mx =>
  let m:=mx.getD cap
  let h:=hi.getD len
  let l:=lo.getD 0
  bif Nat.ble m cap&&(Nat.ble h m&&Nat.ble l h)&&(mx.isNone||hi.isSome) then some (l,h,m) else none
def sliceC (st:St) (b off len cap sz:Nat) (lo hi mx:Option SV):Option SV :=
 match optC st lo,optC st hi,optC st mx with
 | some l,some h,some m=>match boundsC len cap l h m with
  | some (l,h,m)=>some (.slc b (bif Nat.beq m l then off else off+l*sz) (h - l) (m - l))
  | none=>none
 | _,_,_=>none
def upS (st:St) (len:SI) (n1 n2:Int):Option SV→Option (SI×Int×Int)
 | none=>some (len,n1,n2)
 | some (.int _ x)=>match rngI st x with
  | some (l,h)=>bif decide (0≤l)&&decide (h≤n1) then some (x,l,h) else none
  | none=>none
 | _=>none
def sliceB (st:St) (len:SI) (lo hi:Option SV):Option SI :=
 match rngI st len with
 | none=>none
 | some (n1,n2) =>
  match upS st len n1 n2 hi with
  | none=>none
  | some (h,h1,h2) =>
   match lo with
   | none=>some h
   | some v=>match rng st v with
    | some (_,x,y)=>bif decide (0≤x)&&decide (y≤h1) then some (.r (h1 - y) (h2 - x)) else none
    | none=>none
def lenS (st:St):SV→Option SI
 | .slc _ _ len _=>some (.r (Int.ofNat len) (Int.ofNat len))
 | .nils=>some (.r 0 0)
 | .sl i=>match lk st.sls i with
  | some (.bytes l)=>some l
  | some (.row _ len)=>some (.r (Int.ofNat len) (Int.ofNat len))
  | _=>none
 | _=>none
def foldMM (st:St) (isMax:Bool):IntKind→Int→Int→List SV→Option SV
 | k,lo,hi,[]=>some (.int k (.r lo hi))
 | k,lo,hi,v::l=>match rng st v with
  | some (j,a,b)=>bif eqK j k then (bif isMax then foldMM st isMax k (mx lo a) (mx hi b) l else foldMM st isMax k (mn lo a) (mn hi b) l) else none
  | none=>none
def builtP (T:Tb) (st:St) (b:Builtin) (ats:List Nat) (args:List SV):Option SV :=
 match b,ats,args with
 | .len,[t],[x]=>match T.ty.get t with
  | some ty=>match ty.und with
   | .slice _=>match lenS st x with
    | some l=>some (.int .i64 l)
    | none=>none
   | .arr n _=>some (.int .i64 (.r (Int.ofNat n) (Int.ofNat n)))
   | _=>none
  | none=>none
 | .max,_,v::l=>match rng st v with
  | some (k,lo,hi)=>foldMM st true k lo hi l
  | none=>none
 | .min,_,v::l=>match rng st v with
  | some (k,lo,hi)=>foldMM st false k lo hi l
  | none=>none
 | _,_,_=>none
def pureOp (T:Tb) (tm:TT) (st:St):Op→Option SV
 | .move x | .assign x=>some (rho tm x)
 | .pick c a b=>match evalB st (rho tm c) with
  | some true=>some (rho tm a)
  | some false=>some (rho tm b)
  | none=>bif isB (rho tm c)&&(isB (rho tm a)&&isB (rho tm b)) then some (.bool) else none
 | .nilCheck x=>match rho tm x with
  | .ptr b o=>some (.ptr b o)
  | .sp i=>some (.sp i)
  | .gp b o=>some (.gp b o)
  | .func (.func f) a b=>some (.func (.func f) a b)
  | _=>none
 | .binOp op t x y _=>match binS T st op t (rho tm x) (rho tm y) with
  | some v=>some v
  | none=>none
 | .unOp .not _ x=>match notM (rho tm x) with
  | some v=>some v
  | none=>none
 | .unOp .neg _ x=>match rng st (rho tm x) with
  | some (k,lo,hi)=>some (mk k (-hi) (-lo))
  | none=>none
 | .unOp .xor _ x=>match rng st (rho tm x) with
  | some (k,_,_)=>some (full k)
  | none=>none
 | .convert s d x=>match T.ty.get s with
  | some _=>convS T st d (rho tm x)
  | none=>none
 | .sliceToArrayPointer t x=>match T.ty.get t with
  | some ty=>match ty.und with
   | .arr n _=>match rho tm x with
    | .slc b off len _=>bif Nat.ble n len then some (.ptr b off) else none
    | .sl i=>match lk st.sls i with
     | some (.bytes len)=>match rngI st len with
      | some (lo,_)=>bif Nat.blt 0 n&&decide (Int.ofNat n≤lo) then some (.sp i) else none
      | none=>none
     | _=>none
    | _=>none
   | _=>none
  | none=>none
 | .makeInterface t x=>match T.ty.get t with
  | some ty=>match ty.und with
   | .iface=>none
   | .other=>none
   | _=>some (.iface t (rho tm x))
  | none=>none
 | .makeFunc fn a b=>some (.func fn (rhoL tm a.toList) (rhoL tm b.toList))
 | .fieldAddr t x f=>match rho tm x,fieldS T t f with
  | .ptr b off,some (y,o)=>bif Nat.beq y.size 0 then none else some (.ptr b (off+o))
  | _,_=>none
 | .field t x f=>match rho tm x,fieldS T t f with
  | .agg l,some (y,o)=>match partS y l o with
   | some v=>some v
   | none=>none
  | _,_=>none
 | .indexAddr t x i=>match T.ty.get t with
  | some ty=>match ty.und,rho tm x with
   | .arr n e,.ptr b off=>match cstN st (rho tm i),T.ty.get e with
    | some k,some y=>bif Nat.blt k n then some (.ptr b (off+k*y.size)) else none
    | _,_=>none
   | .arr n e,.gp b off=>match cstN st (rho tm i),T.ty.get e with
    | some k,some y=>bif Nat.blt k n then some (.gp b (off+k*y.size)) else none
    | _,_=>none
   | .slice e,.slc b off len _=>match cstN st (rho tm i),T.ty.get e with
    | some k,some y=>bif Nat.blt k len then some (.ptr b (off+k*y.size)) else none
    | _,_=>none
   | .slice e,.sl s=>(match lk st.sls s with
    | some (.bytes len)=>(match rngI st len,rng st (rho tm i),T.ty.get e with
     | some (lo,_),some (_,a,b),some y=>bif Nat.beq y.size 1&&(decide (0≤a)&&decide (b<lo)) then some (.sq s) else none
     | _,_,_=>none)
    | some (.row b len)=>(match cstN st (rho tm i),T.ty.get e with
     | some k,some y=>bif Nat.blt k len then some (.ptr b (k*y.size)) else none
     | _,_=>none)
    | _=>none)
   | _,_=>none
  | none=>none
 | .index t x i=>match T.ty.get t with
  | some ty=>match ty.und,rho tm x with
   | .arr n e,.agg l=>match cstN st (rho tm i),T.ty.get e with
    | some k,some y=>bif Nat.blt k n then (match partS y l (k*y.size) with
     | some v=>some v
     | none=>none) else none
    | _,_=>none
   | _,_=>none
  | none=>none
 | .extract x i=>match rho tm x with
  | .tup l=>match nth l i with
   | some v=>some v
   | none=>none
  | _=>none
 | .build t ps=>match T.ty.get t with
  | some ty=>bif knownT T ty.und then (match fillS (placeS T ty) ty.zero (rhoP tm ps.toList) with
   | some cs=>some (.agg cs)
   | none=>none) else none
  | none=>none
 | .typeAssert x _ a ok=>match rho tm x,T.ty.get a with
  | .iface t v,some ty=>match ty.und with
   | .iface=>none
   | .other=>none
   | _=>bif Nat.beq t a then some (bif ok then .tup [v,.tt] else v) else none
  | _,_=>none
 | .slice t x lo hi mx=>match T.ty.get t with
  | some ty=>match ty.und,rho tm x with
   | .arr n e,.ptr b off=>match T.ty.get e with
    | some y=>match sliceC st b off n n y.size (optS tm lo) (optS tm hi) (optS tm mx) with
     | some v=>some v
     | none=>none
    | none=>none
   | .slice e,.slc b off len cap=>match T.ty.get e with
    | some y=>match sliceC st b off len cap y.size (optS tm lo) (optS tm hi) (optS tm mx) with
     | some v=>some v
     | none=>none
    | none=>none
   | _,_=>none
  | none=>none
 | .call c=>match c.callee with
  | .builtin b=>builtP T st b c.argTypes.toList (rhoL tm c.args.toList)
  | .value (.func g)=>bif T.pkB g then fL (rhoL tm c.args.toList) fun args=>T.pk g args st else none
  | _=>none
 | _=>none
def nameOp (T:Tb) (tm:TT) (st:St):Op→Option (SV×St)
 | .slice t x lo hi mx=>match T.ty.get t with
  | some ty=>match ty.und,rho tm x with
   | .slice e,.sl s=>(match lk st.sls s,mx with
    | some (.bytes len),none=>(match sliceB st len (optS tm lo) (optS tm hi),T.ty.get e with
     | some l,some y=>bif Nat.beq y.size 1 then some (.sl st.nid,{ st with sls:=(st.nid,.bytes l)::st.sls,nid:=st.nid+1 }) else none
     | _,_=>none)
    | some (.row b len),none=>(match lo,optC st (optS tm hi),lk st.heap b,T.ty.get e with
     | none,some (some h),some (.row el sz sid cs),some y=>bif Nat.beq sid s&&(Nat.beq sz y.size&&Nat.ble h len) then
       (match takeL (h*sz) cs with
       | some cs'=>some (.sl st.nid,{ st with heap:=upd st.heap b (.row el sz st.nid cs'),sls:=(st.nid,.row b h)::st.sls,nid:=st.nid+1 })
       | none=>none) else none
     | _,_,_,_=>none)
    | _,_=>none)
   | _,_=>none
  | none=>none
 | _=>none
def byteCell:SV:=.int .u8 (.r 0 255)
def rep:Nat→SV→List SV
 | 0,_=>[]
 | n+1,v=>v::rep n v
def loadS (T:Tb) (st:St) (t:Nat) (x:SV):Option SV :=
 match T.ty.get t with
 | none=>none
 | some ty =>
  match x with
  | .ptr b off=>match lk st.heap b with
   | some (.cells _ cs)=>partS ty cs off
   | some (.row _ _ _ cs)=>partS ty cs off
   | some (.ro _ cs)=>partS ty cs off
   | _=>none
  | .gp g off=>match T.gl g with
   | some cs=>partS ty cs off
   | none=>none
  | .sq i=>match ty.und with
   | .int .u8=>match lk st.sls i with
    | some (.bytes _)=>some byteCell
    | _=>none
   | _=>none
  | .sp i=>match ty.und with
   | .arr n _=>match lk st.sls i with
    | some (.bytes len)=>match rngI st len with
     | some (lo,_)=>bif Nat.blt 0 n&&(decide (Int.ofNat n≤lo)&&Nat.beq ty.size n) then some (.agg (rep n byteCell)) else none
     | none=>none
    | _=>none
   | _=>none
  | _=>none
def readOp (T:Tb) (tm:TT) (st:St):Op→Option SV
 | .load t x=>loadS T st t (rho tm x)
 | .call c=>match c.callee with
  | .value (.func g)=>bif T.rkB g then fL (rhoL tm c.args.toList) fun args=>T.rk g args st else none
  | _=>none
 | _=>none
def storeS (T:Tb) (st:St) (t:Nat) (x v:SV):Option St :=
 match T.ty.get t,x with
 | some ty,.ptr b off =>
  bif Nat.beq (cellsOf v).length ty.size&&allCell (cellsOf v) then
   match lk st.heap b with
   | some (.cells e cs)=>match splice off cs (cellsOf v) with
    | some cs'=>some { st with heap:=upd st.heap b (.cells e cs') }
    | none=>none
   | some (.row e sz sid cs)=>match splice off cs (cellsOf v) with
    | some cs'=>some { st with heap:=upd st.heap b (.row e sz sid cs') }
    | none=>none
   | _=>none
  else none
 | _,_=>none
def newB (st:St) (e:Nat) (cs:List SV):St:={ st with heap:=(st.nid,.cells e cs)::st.heap,nid:=st.nid+1 }
def repL:Nat→List SV→List SV
 | 0,_=>[]
 | n+1,l=>l++repL n l
def cellsS (st:St) (sz:Nat):SV→Option (List SV)
 | .slc b off len _=>match lk st.heap b with
  | some (.cells _ cs)=>cut off (len*sz) cs
  | _=>none
 | .nils=>some []
 | .sl i=>match lk st.sls i with
  | some (.row b len)=>(match lk st.heap b with
   | some (.row _ _ _ cs)=>cut 0 (len*sz) cs
   | _=>none)
  | some (.bytes (.r (.ofNat n) (.ofNat m)))=>bif Nat.beq n m&&Nat.beq sz 1 then some (rep n byteCell) else none
  | _=>none
 | _=>none
def appSt (st:St) (e sz n:Nat) (cs:List SV) (h:List (Nat×Blk)) (sl:List (Nat×SlI)):St :=
 { st with heap:=(st.nid,.row e sz (st.nid+1) cs)::h,sls:=(st.nid+1,.row st.nid n)::sl,nid:=st.nid+2 }
def appTo (st:St) (e sz:Nat):SV→Option (List (Nat×Blk)×List (Nat×SlI))
 | .nils=>some (st.heap,st.sls)
 | .slc _ _ len cap=>bif Nat.beq len cap then some (st.heap,st.sls) else none
 | .sl i=>match lk st.sls i with
  | some (.row b _)=>match lk st.heap b with
   | some (.row e' sz' sid _)=>bif Nat.beq e' e&&(Nat.beq sz' sz&&Nat.beq sid i) then some (del st.heap b,del st.sls i) else none
   | _=>none
  | _=>none
 | _=>none
def lenC (st:St) (v:SV):Option Nat :=
 match lenS st v with
 | some (.r (.ofNat n) (.ofNat m))=>bif Nat.beq n m then some n else none
 | _=>none
def appendS (T:Tb) (st:St) (t:Nat) (s x:SV):Option (SV×St) :=
 match T.ty.get t with
 | none=>none
 | some ty=>match ty.und with
  | .slice e=>match T.ty.get e with
   | none=>none
   | some y =>
    match cellsS st y.size s,cellsS st y.size x,lenC st s,lenC st x,appTo st e y.size s with
    | some old,some new,some n,some m,some (h,sl) =>
     bif Nat.blt 0 m&&(Nat.ble (n+m) 1000000&&(Nat.ble y.bytes 1000000&&(Nat.blt 0 y.size&&allCell new))) then
      some (.sl (st.nid+1),appSt st e y.size (n+m) (old++new) h sl)
     else none
    | _,_,_,_,_=>none
  | _=>none
def noOwn (b:Nat):List (Nat×SlI)→Bool
 | []=>true
 | (_,.own c _ _)::l=>!Nat.beq c b&&noOwn b l
 | _::l=>noOwn b l
def ownSt (st:St) (b i nm:Nat) (args:List SV):St :=
 { st with heap:=(st.nid,.opq)::del st.heap b,sls:=(st.nid+1,.own st.nid nm args)::del st.sls i,nid:=st.nid+2 }
def appendO (T:Tb) (st:St) (t:Nat) (s x:SV):Option (SV×St) :=
 match s with
 | .sl i=>match lk st.sls i,T.ty.get t with
  | some (.own b nm (hd::args)),some ty=>match ty.und with
   | .slice e=>match T.ty.get e,T.ownE nm,rng st hd with
    | some y,some (e',sz'),some (_,lo,hi) =>
     (match cellsS st y.size x,lenC st x with
     | some new,some m =>
      bif Nat.beq e' e&&(Nat.beq sz' y.size&&(Nat.blt 0 m&&(decide (hi+Int.ofNat m≤1000000)&&(Nat.ble y.bytes 1000000&&(Nat.blt 0 y.size&&(allCell new&&noOwn b (del st.sls i))))))) then
       (match T.app nm args new st with
       | some args'=>some (.sl (st.nid+1),ownSt st b i nm (.int .i64 (.r (lo+Int.ofNat m) (hi+Int.ofNat m))::args'))
       | none=>none)
      else none
     | _,_=>none)
    | _,_,_=>none
   | _=>none
  | _,_=>none
 | _=>none
def isByte:SV→Bool
 | .int .u8 (.r lo hi)=>decide (0≤lo)&&decide (hi≤255)
 | _=>false
def allByte:List SV→Bool
 | []=>true
 | v::l=>isByte v&&allByte l
def bytesArg (st:St) (v:SV):Option SI :=
 match v with
 | .nils=>some (.r 0 0)
 | .sl i=>match lk st.sls i with
  | some (.bytes l)=>some l
  | _=>none
 | .slc b off len cap=>match cellsS st 1 v with
  | some cs=>bif allByte cs then some (.r (Int.ofNat len) (Int.ofNat len)) else none
  | none=>none
 | _=>none
def copyS (T:Tb) (st:St) (t:Nat) (d x:SV):Option (SV×St) :=
 match T.ty.get t with
 | some ty=>match ty.und with
  | .slice e=>match T.ty.get e with
   | some y=>bif Nat.beq y.size 1 then
    (match d with
    | .slc b off len _=>match lk st.heap b with
     | some (.cells el cs)=>match cut off len cs,bytesArg st x with
      | some old,some _=>bif allByte old then (match splice off cs (rep len byteCell) with
       | some cs'=>some (.int .i64 (.r 0 (Int.ofNat len)),{ st with heap:=upd st.heap b (.cells el cs') })
       | none=>none) else none
      | _,_=>none
     | _=>none
    | _=>none) else none
   | none=>none
  | _=>none
 | none=>none
def append0 (T:Tb) (st:St) (t:Nat) (s x:SV):Option SV :=
 match T.ty.get t with
 | none=>none
 | some ty=>match ty.und with
  | .slice e=>match T.ty.get e,lenC st x with
   | some _,some 0=>(match s with
    | .nils=>some .nils
    | .slc b off len cap=>bif Nat.ble len cap then some (.slc b off len cap) else none
    | .sl i=>match lk st.sls i with
     | some (.row b _)=>match lk st.heap b with
      | some (.row _ _ sid _)=>bif Nat.beq sid i then some (.sl i) else none
      | _=>none
     | _=>none
    | _=>none)
   | _,_=>none
  | _=>none
def builtS (T:Tb) (st:St) (b:Builtin) (ats:List Nat) (args:List SV):Option (SV×St) :=
 match b,ats,args with
 | .append,[t,t'],[s,x]=>bif Nat.beq t t' then (match append0 T st t s x with
  | some v=>some (v,st)
  | none=>match appendO T st t s x with
  | some r=>some r
  | none=>appendS T st t s x) else none
 | .copy,t::_,[d,x]=>copyS T st t d x
 | _,_,_=>none
def putD (tm:TT) (dst:Option Nat) (v:SV):TT :=
 match dst with
 | some d=>tm.set d v
 | none=>tm
def putK {α:Type} (tm:TT) (dst:Option Nat) (v:SV) (k:TT→α):α :=
 match dst with
 | some d=>setK tm d v k
 | none=>k tm
abbrev Sx:=TT×St
def oneM (dst:Option Nat) (tm:TT) (v:SV) (st:St):Option (List Sx) :=
 fV v fun v=>putK tm dst v fun tm=>match st with
 | ⟨h,t,s,n,f⟩=>fH1 h fun h=>fN n fun n=>some [(tm,⟨h,t,s,n,f⟩)]
def one (dst:Option Nat) (tm:TT) (v:SV) (st:St):Option (List Sx) :=
 fV v fun v=>putK tm dst v fun tm=>fStM st fun st=>some [(tm,st)]
def one0 (dst:Option Nat) (tm:TT) (v:SV) (st:St):Option (List Sx) :=
 fV v fun v=>putK tm dst v fun tm=>some [(tm,st)]
def outs (dst:Option Nat) (tm:TT):Out→List Sx
 | []=>[]
 | (v,st)::l=>fV v fun v=>putK tm dst v fun tm'=>(tm',st)::outs dst tm l
def lkM:List (Int×SV)→Int→Option SV
 | [],_=>none
 | (k,v)::l,x=>bif decide (k=x) then some v else lkM l x
def intKey (T:Tb) (t:Nat):Bool:=T.ik t
def keyN (v:SV):Option Int :=
 match v with
 | .int .i64 (.r a b)=>bif decide (a=b) then some a else none
 | _=>none
def mapOp (T:Tb) (tm:TT) (st:St) (dst:Option Nat):Op→Option (List Sx)
 | .makeMap _ none=>one dst tm (.mapv st.nid) { st with heap:=(st.nid,.map [])::st.heap,nid:=st.nid+1 }
 | .insert t m k x=>bif intKey T t then
   (match rho tm m,keyN (rho tm k) with
   | .mapv b,some n=>match lk st.heap b with
    | some (.map es)=>match lkM es n with
     | none=>one dst tm .u { st with heap:=upd st.heap b (.map (es++[(n,rho tm x)])) }
     | some _=>none
    | _=>none
   | _,_=>none)
  else none
 | .lookup t m k ok=>bif intKey T t then
   (match rho tm m,keyN (rho tm k) with
   | .mapv b,some n=>match lk st.heap b with
    | some (.map es)=>match lkM es n with
     | some v=>one0 dst tm (bif ok then .tup [v,.tt] else v) st
     | none=>none
    | _=>none
   | _,_=>none)
  else none
 | _=>none
def memOp (T:Tb) (call:Nat→List SV→St→Option Out) (tm:TT) (st:St) (dst:Option Nat):Op→Option (List Sx)
 | .store t x v=>match storeS T st t (rho tm x) (rho tm v) with
  | some st'=>oneM dst tm .u st'
  | none=>none
 | .alloc t=>match T.ty.get t with
  | some y=>oneM dst tm (.ptr st.nid 0) (newB st t y.zero)
  | none=>none
 | .box t x=>match T.ty.get t with
  | some y=>bif allCell (cellsOf (rho tm x)) then oneM dst tm (.ptr st.nid 0) (newB st t (cellsOf (rho tm x))) else none
  | none=>none
 | .buildSlice t len ps=>match T.ty.get t with
  | some ty=>match ty.und with
   | .slice e=>match T.ty.get e with
    | some y=>bif Nat.ble (len*y.size) 100000&&Nat.blt 0 y.size then (match fillS (placeS T ty) (repL len y.zero) (rhoP tm ps.toList) with
     | some cs=>bif allCell cs then oneM dst tm (.slc st.nid 0 len len) (newB st e cs) else none
     | none=>none) else none
    | none=>none
   | _=>none
  | none=>none
 | .makeSlice t l c=>match T.ty.get t,cstN st (rho tm l),cstN st (rho tm c) with
  | some ty,some n,some m=>match ty.und with
   | .slice e=>match T.ty.get e with
    | some y=>bif Nat.beq n m&&(Nat.ble n 100000&&(Nat.ble y.bytes 100000&&(Nat.blt 0 y.size&&Nat.beq y.zero.length y.size))) then oneM dst tm (.slc st.nid 0 n n) (newB st e (repL n y.zero)) else none
    | none=>none
   | _=>none
  | _,_,_=>none
 | .call c=>match c.callee with
  | .builtin b=>match builtS T st b c.argTypes.toList (rhoL tm c.args.toList) with
   | some (v,st')=>one dst tm v st'
   | none=>none
  | .value f=>match rho tm f with
   | .func (.func g) first cap=>match fL (first++rhoL tm c.args.toList++cap) fun args=>call g args st with
    | some l=>some (outs dst tm l)
    | none=>none
   | _=>none
  | .invoke r nm=>match rho tm r with
   | .iface t v=>match T.inv t nm with
    | some (g,none)=>(match fL (v::rhoL tm c.args.toList) fun args=>call g args st with
     | some l=>some (outs dst tm l)
     | none=>none)
    | some (g,some e)=>(match loadS T st e v with
     | some x=>(match fL (x::rhoL tm c.args.toList) fun args=>call g args st with
      | some l=>some (outs dst tm l)
      | none=>none)
     | none=>none)
    | none=>none
   | _=>none
 | o=>mapOp T tm st dst o
def wideI:SV→Option (IntKind×Int×Int)
 | .int k (.r lo hi)=>bif decide (lo=hi) then none else some (k,lo,hi)
 | _=>none
def readPut (T:Tb) (dst:Option Nat) (tm:TT) (v:SV) (st:St):Option (List Sx) :=
 match bif T.nameB then wideI v else none with
 | some (k,lo,hi)=>one dst tm (.int k (.a st.nid)) { st with tab:=(st.nid,lo,hi)::st.tab,nid:=st.nid+1 }
 | none=>one0 dst tm v st
def isConv:Op→Bool
 | .convert ..=>true
 | _=>false
def opStep (T:Tb) (call:Nat→List SV→St→Option Out) (tm:TT) (st:St) (o:Oper):Option (List Sx) :=
 match pureOp T tm st o.op with
 | some v=>bif isConv o.op then readPut T o.dst tm v st else one0 o.dst tm v st
 | none=>match nameOp T tm st o.op with
  | some (v,st')=>one o.dst tm v st'
  | none=>match readOp T tm st o.op with
   | some v=>readPut T o.dst tm v st
   | none=>memOp T call tm st o.dst o.op
def refine (c:Cmp) (lo hi n:Int):Int×Int :=
 match c with
 | .lt=>(lo,mn hi (n - 1))
 | .le=>(lo,mn hi n)
 | .gt=>(mx lo (n+1),hi)
 | .ge=>(mx lo n,hi)
 | .eq=>(mx lo n,mn hi n)
 | .ne=>(bif decide (lo=n) then lo+1 else lo,bif decide (hi=n) then hi - 1 else hi)
def assumeS (st:St) (v:SV) (b:Bool):Option St :=
 match v with
 | .tt=>bif b then some st else none
 | .ff=>bif b then none else some st
 | .cmp c id n=>match lk st.tab id with
  | some (lo,hi) =>
   match refine (bif b then c else c.neg) lo hi n with
   | (l,h)=>bif decide (l≤h) then some { st with tab:=upd st.tab id (l,h) } else none
  | none=>some st
 | _=>some st
def appS {α:Type} (m n:List α):Option (List α) :=
 match n with
 | []=>some m
 | y::t=>fS (m++(y::t)) some
def bindL {α β:Type} (f:α→Option (List β)):List α→Option (List β)
 | []=>some []
 | x::l=>match f x with
  | some m=>match bindL f l with
   | some n=>appS m n
   | none=>none
  | none=>none
def toL {α:Type}:Option α→List α
 | some x=>[x]
 | none=>[]
def assumeL (st:St) (v:SV) (b:Bool):List St :=
 match v with
 | .cmp c id n=>match (bif b then c else c.neg) with
  | .ne=>match lk st.tab id with
   | some (lo,hi)=>bif decide (lo<n)&&(decide (n<hi)&&decide (hi - lo≤40)) then
     [{ st with tab:=upd st.tab id (lo,n - 1) },{ st with tab:=upd st.tab id (n+1,hi) }]
    else toL (assumeS st v b)
   | none=>toL (assumeS st v b)
  | _=>toL (assumeS st v b)
 | _=>toL (assumeS st v b)
inductive Gd where
 | run | skip | fork (t:Nat) (want:Bool) | bad
def guardS (ops:List Oper) (tm:TT) (st:St) (o:Oper):Gd :=
 match o.guard with
 | none=>.run
 | some (j,want)=>match nth ops j with
  | some oj=>match oj.dst with
   | some t=>match evalB st (tm.get t) with
    | some b=>bif (bif want then b else !b) then .run else .skip
    | none=>bif isB (tm.get t) then .fork t want else (match tm.get t with
     | .tup []=>.skip
     | _=>.bad)
   | none=>.bad
  | none=>.bad
def gStep (T:Tb) (call:Nat→List SV→St→Option Out) (ops:List Oper) (tm:TT) (st:St) (o:Oper):Option (List Sx) :=
 match guardS ops tm st o with
 | .run=>opStep T call tm st o
 | .skip=>putK tm o.dst (.tup []) fun tm=>some [(tm,st)]
 | .fork t want =>
  match bindL (fun st'=>setK tm t (ofB want) fun tm=>fStT st' fun st'=>opStep T call tm st' o) (assumeL st (tm.get t) want) with
  | some l1=>match bindL (fun st'=>setK tm t (ofB (!want)) fun tm=>putK tm o.dst (.tup []) fun tm=>fStT st' fun st'=>some [(tm,st')]) (assumeL st (tm.get t) (!want)) with
   | some l2=>some (l1++l2)
   | none=>none
  | none=>none
 | .bad=>none
def runOps (T:Tb) (call:Nat→List SV→St→Option Out) (ops:List Oper):List Oper→Sx→Option (List Sx)
 | [],s=>some [s]
 | o::rest,s=>match gStep T call ops s.1 s.2 o with
  | some l=>bindL (runOps T call ops rest) l
  | none=>none
def edgesIn (m:Nat):List Edge→Bool
 | []=>true
 | e::l=>(!Region.binds .any e||m.testBit e.on)&&edgesIn m l
def readyS (m:Nat) (i:Nat) (o:Oper):Bool:=!m.testBit i&&edgesIn m o.after.toList
def opTmps:List Operand→List Nat
 | []=>[]
 | .tmp t::l=>t::opTmps l
 | _::l=>opTmps l
def looks (ops:List Oper) (o:Oper):List Nat :=
 match o.guard with
 | some (g,_)=>(match nth ops g with
  | some og=>(match og.dst with
   | some d=>d::opTmps o.op.operands.toList
   | none=>opTmps o.op.operands.toList)
  | none=>opTmps o.op.operands.toList)
 | none=>opTmps o.op.operands.toList
def hasN (l:List Nat) (d:Nat):Bool :=
 match l with
 | []=>false
 | x::t=>bif Nat.beq x d then true else hasN t d
abbrev Inf:=Option Nat×List Nat
def apartS (x y:Inf):Bool :=
 (match x.1 with
 | some d=>!hasN y.2 d&&(match y.1 with
  | some d'=>!Nat.beq d' d
  | none=>true)
 | none=>true) &&
 (match y.1 with
 | some d=>!hasN x.2 d
 | none=>true)
def onEdge (i:Nat):List Edge→Bool
 | []=>false
 | e::l=>bif Nat.beq e.on i&&Region.binds .any e then true else onEdge i l
def freeS (m i:Nat) (x:Inf):Nat→List (Inf×List Edge)→Bool
 | _,[]=>true
 | j,(y,es)::l=>(Nat.beq i j||(m.testBit j||(onEdge i es||apartS x y)))&&freeS m i x (j+1) l
def infs (ops:List Oper):List Oper→List (Inf×List Edge)
 | []=>[]
 | o::l=>((o.dst,looks ops o),o.after.toList)::infs ops l
def onAny (i:Nat) (D:Nat):List Edge→Bool
 | []=>false
 | e::l=>bif (Nat.beq e.on i||D.testBit e.on)&&Region.binds .any e then true else onAny i D l
def descS (i:Nat):Nat→List (Inf×List Edge)→Nat→Nat
 | _,[],D=>D
 | j,(_,es)::l,D=>bif onAny i D es then fN (D ||| (1 <<< j)) fun D=>descS i (j+1) l D else descS i (j+1) l D
def intT (T:Tb) (t:Nat):Bool :=
 match T.ty.get t with
 | some y=>match y.und with
  | .int _=>true
  | _=>false
 | none=>false
def stillOp (T:Tb):Op→Bool
 | .move _ | .assign _ | .load .. | .fieldAddr .. | .nilCheck _ | .extract .. | .pick .. | .makeFunc .. | .indexAddr .. | .field .. | .index ..=>true
 | .alloc _ | .box .. | .build .. | .buildSlice ..=>true
 | .unOp ..=>true
 | .binOp .and _ _ _ _ | .binOp .or _ _ _ _ | .binOp .xor _ _ _ _ | .binOp .shl _ _ _ _ | .binOp .shr _ _ _ _ | .binOp .lss _ _ _ _ | .binOp .leq _ _ _ _ | .binOp .gtr _ _ _ _ | .binOp .geq _ _ _ _=>true
 | .convert x y _=>intT T x&&intT T y
 | _=>false
def quietBut (T:Tb) (i m D:Nat):Nat→List Oper→Bool
 | _,[]=>true
 | j,o::l=>(Nat.beq i j||(m.testBit j||(D.testBit j||stillOp T o.op)))&&quietBut T i m D (j+1) l
def descOk (i D:Nat):Nat→List Oper→Bool
 | _,[]=>true
 | j,o::l=>(!D.testBit j||onAny i D o.after.toList)&&descOk i D (j+1) l
def noDone (m D:Nat):Bool:=Nat.beq (m &&& D) 0
def pureKind (T:Tb):Op→Bool
 | .move _ | .assign _ | .pick .. | .nilCheck _ | .binOp .. | .unOp .. | .convert .. | .sliceToArrayPointer .. | .makeInterface .. | .makeFunc .. | .fieldAddr .. | .field ..
 | .indexAddr .. | .index .. | .extract .. | .build .. | .typeAssert .. | .slice ..=>true
 | .call c=>match c.callee with
  | .builtin .len | .builtin .max | .builtin .min=>true
  | .value (.func g)=>T.pkB g
  | _=>false
 | _=>false
def readKind (T:Tb):Op→Bool
 | .load ..=>true
 | .call c=>match c.callee with
  | .value (.func g)=>T.rkB g
  | _=>false
 | _=>false
inductive Hk where
 | no | pure | load
def hoistK (T:Tb) (ops:List Oper) (inf:List (Inf×List Edge)) (m i:Nat) (o:Oper) (x:Inf):Hk :=
 bif readyS m i o&&freeS m i x 0 inf then
  (bif pureKind T o.op then .pure
  else bif readKind T o.op then fN (descS i 0 inf 0) fun D=>bif quietBut T i m D 0 ops&&(descOk i D 0 ops&&noDone m D) then .load else .no
  else .no)
 else .no
def hoistI (T:Tb) (all:List Oper) (inf:List (Inf×List Edge)) (m:Nat):Nat→List Oper→List (Inf×List Edge)→Option (Nat×Oper×Bool)
 | i,o::l,x::xs=>match hoistK T all inf m i o x.1 with
  | .pure=>some (i,o,true)
  | .load=>some (i,o,false)
  | .no=>fN (i+1) fun i=>hoistI T all inf m i l xs
 | _,_,_=>none
def readies (m:Nat):Nat→List Oper→List (Nat×Oper)
 | _,[]=>[]
 | i,o::l=>bif readyS m i o then (i,o)::readies m (i+1) l else readies m (i+1) l
inductive Plan where
 | fin
 | pure (o:Oper) (p:Plan)
 | load (o:Oper) (p:Plan)
 | alt (o:Oper) (p q:Plan)
 | stop
 | bad
def setBit {α:Type} (m i:Nat) (k:Nat→α):α:=fN (m ||| (1 <<< i)) k
def alts (f:Nat→Plan) (m:Nat):List (Nat×Oper)→Plan
 | []=>.stop
 | (i,o)::l=>.alt o (setBit m i f) (alts f m l)
def mkPlan (T:Tb) (ops:List Oper) (inf:List (Inf×List Edge)):Nat→Nat→Plan
 | 0,m=>match readies m 0 ops with
  | []=>.fin
  | _=>.bad
 | k+1,m=>match hoistI T ops inf m 0 ops inf with
  | some (i,o,true)=>.pure o (setBit m i fun m=>mkPlan T ops inf k m)
  | some (i,o,false)=>.load o (setBit m i fun m=>mkPlan T ops inf k m)
  | none=>match readies m 0 ops with
   | []=>.fin
   | rs=>alts (fun m=>mkPlan T ops inf k m) m rs
def forked (ops:List Oper) (s:Sx) (o:Oper) (f:Bool→Sx→Option (List Sx)):Option (List Sx) :=
 match guardS ops s.1 s.2 o with
 | .run=>f true s
 | .skip=>f false s
 | .fork t want =>
  match bindL (fun st'=>setK s.1 t (ofB want) fun tm=>fStT st' fun st'=>f true (tm,st')) (assumeL s.2 (s.1.get t) want) with
  | some l1=>match bindL (fun st'=>setK s.1 t (ofB (!want)) fun tm=>fStT st' fun st'=>f false (tm,st')) (assumeL s.2 (s.1.get t) (!want)) with
   | some l2=>some (l1++l2)
   | none=>none
  | none=>none
 | .bad=>none
def runPlan (T:Tb) (call:Nat→List SV→St→Option Out) (ops:List Oper):Plan→Sx→Option (List Sx)
 | .fin,s=>some [s]
 | .pure o p,s=>forked ops s o fun w s=>bif w then
   (match pureOp T s.1 s.2 o.op with
   | some v=>fV v fun v=>putK s.1 o.dst v fun tm=>runPlan T call ops p (tm,s.2)
   | none=>match nameOp T s.1 s.2 o.op with
    | some (v,st)=>fV v fun v=>putK s.1 o.dst v fun tm=>fStM st fun st=>runPlan T call ops p (tm,st)
    | none=>none)
   else putK s.1 o.dst (.tup []) fun tm=>runPlan T call ops p (tm,s.2)
 | .load o p,s=>forked ops s o fun w s=>bif w then
   (match readOp T s.1 s.2 o.op with
   | some v=>fV v fun v=>putK s.1 o.dst v fun tm=>runPlan T call ops p (tm,s.2)
   | none=>none)
   else putK s.1 o.dst (.tup []) fun tm=>runPlan T call ops p (tm,s.2)
 | .alt o p q,s=>match gStep T call ops s.1 s.2 o with
  | some r=>match bindL (runPlan T call ops p) r with
   | some l=>match runPlan T call ops q s with
    | some m=>some (l++m)
    | none=>none
   | none=>none
  | none=>none
 | .stop,_=>some []
 | .bad,_=>none
def beqM:List (Int×SV)→List (Int×SV)→Bool
 | [],[]=>true
 | (i,x)::l,(j,y)::m=>decide (i=j)&&(SV.beq x y&&beqM l m)
 | _,_=>false
def Blk.beq:Blk→Blk→Bool
 | .cells e l1,.cells f l2=>Nat.beq e f&&SV.beqL l1 l2
 | .row e z s l1,.row f y r l2=>Nat.beq e f&&(Nat.beq z y&&(Nat.beq s r&&SV.beqL l1 l2))
 | .opq,.opq=>true
 | .ro e l1,.ro f l2=>Nat.beq e f&&SV.beqL l1 l2
 | .map l1,.map l2=>beqM l1 l2
 | _,_=>false
def beqH:List (Nat×Blk)→List (Nat×Blk)→Bool
 | [],[]=>true
 | (i,x)::l,(j,y)::m=>Nat.beq i j&&(x.beq y&&beqH l m)
 | _,_=>false
def beqT:List (Nat×Int×Int)→List (Nat×Int×Int)→Bool
 | [],[]=>true
 | (i,x,y)::l,(j,z,w)::m=>Nat.beq i j&&(decide (x=z)&&(decide (y=w)&&beqT l m))
 | _,_=>false
def SlI.beq:SlI→SlI→Bool
 | .bytes l,.bytes m=>l.beq m
 | .row x y,.row z w=>Nat.beq x z&&Nat.beq y w
 | .own x y l,.own z w m=>Nat.beq x z&&(Nat.beq y w&&SV.beqL l m)
 | _,_=>false
def beqS:List (Nat×SlI)→List (Nat×SlI)→Bool
 | [],[]=>true
 | (i,x)::l,(j,y)::m=>Nat.beq i j&&(x.beq y&&beqS l m)
 | _,_=>false
def beqF:List (Nat×List SV)→List (Nat×List SV)→Bool
 | [],[]=>true
 | (i,x)::l,(j,y)::m=>Nat.beq i j&&(SV.beqL x y&&beqF l m)
 | _,_=>false
def St.beq (x y:St):Bool:=Nat.beq x.nid y.nid&&(beqH x.heap y.heap&&(beqT x.tab y.tab&&(beqS x.sls y.sls&&beqF x.facts y.facts)))
def inSx (x:Sx):List Sx→Bool
 | []=>false
 | y::l=>bif x.1.beq y.1&&x.2.beq y.2 then true else inSx x l
def dedup:List Sx→List Sx
 | []=>[]
 | x::l=>bif inSx x l then dedup l else x::dedup l
def noSel:List Oper→Bool
 | []=>true
 | o::l=>(match o.op with
  | .select ..=>false
  | _=>true)&&noSel l
def fNs {α:Type} (x:List Nat) (k:List Nat→α):α :=
 match x with
 | []=>k []
 | i::l=>fN i fun i=>fNs l fun l=>k (i::l)
def fInf {α:Type} (x:List (Inf×List Edge)) (k:List (Inf×List Edge)→α):α :=
 match x with
 | []=>k []
 | ((d,l),es)::t=>fNs l fun l=>fS es fun es=>match d with
  | none=>fInf t fun t=>k (((none,l),es)::t)
  | some d=>fInf t fun t=>k (((some d,l),es)::t)
def planOf (T:Tb) (ops:List Oper):Plan:=fInf (infs ops ops) fun inf=>mkPlan T ops inf ops.length 0
def drawRun (T:Tb) (call:Nat→List SV→St→Option Out) (ops:List Oper) (s:Sx):Option (List Sx) :=
 bif noSel ops then
  match runPlan T call ops (planOf T ops) s with
  | some l=>some (dedup l)
  | none=>none
 else none
inductive X where
 | n | x (id:Nat) | r
def nrm:List Sx→List (X×Sx)
 | []=>[]
 | s::l=>(.n,s)::nrm l
def thenL (f:Sx→Option (List (X×Sx))):List (X×Sx)→Option (List (X×Sx))
 | []=>some []
 | (.n,s)::l=>match f s with
  | some m=>match thenL f l with
   | some n=>appS m n
   | none=>none
  | none=>none
 | (e,s)::l=>match thenL f l with
  | some n=>some ((e,s)::n)
  | none=>none
def blockL (id:Nat):List (X×Sx)→List (X×Sx)
 | []=>[]
 | (.x i,s)::l=>(bif Nat.beq i id then .n else .x i,s)::blockL id l
 | (e,s)::l=>(e,s)::blockL id l
def loopX (body:Sx→Option (List (X×Sx))):Nat→Sx→Option (List (X×Sx))
 | 0,_=>none
 | n+1,s=>match body s with
  | some l=>thenL (loopX body n) l
  | none=>none
def setC {α:Type} (tm:TT) (c:Operand) (b:Bool) (k:TT→α):α :=
 match c with
 | .tmp t=>setK tm t (ofB b) k
 | _=>k tm
def resS (T:Tb) (s:Sx):List ResultVar→Option (List SV)
 | []=>some []
 | .tmp t::l=>match resS T s l with
  | some m=>some (s.1.get t::m)
  | none=>none
 | .cell a t::l=>match loadS T s.2 t (s.1.get a),resS T s l with
  | some v,some m=>some (v::m)
  | _,_=>none
def oneRes:List SV→SV
 | [v]=>v
 | l=>.tup l
def ends (T:Tb) (rs:List ResultVar):List (X×Sx)→Option Out
 | []=>some []
 | (.x _,_)::_=>none
 | (_,s)::l=>match resS T s rs,ends T rs l with
  | some vs,some m=>some ((oneRes vs,s.2)::m)
  | _,_=>none
def setN {α:Type}:List α→Nat→α→List α
 | [],_,_=>[]
 | _::l,0,y=>y::l
 | x::l,n+1,y=>x::setN l n y
def casesN (k:IntKind) (id i:Nat) (args:List SV) (st:St):Nat→Int→List (List SV×St)
 | 0,_=>[]
 | n+1,z=>(setN args i (.int k (.r z z)),{ st with tab:=upd st.tab id (z,z) })::fI (z+1) fun z=>casesN k id i args st n z
def hasV (st:St):List SV→Bool
 | []=>true
 | .int _ (.a id)::l=>(lk st.tab id).isSome&&hasV st l
 | .int _ (.r a b)::l=>decide (a≤b)&&hasV st l
 | _::_=>false
def nilOwn (T:Tb) (st:St) (b i nm:Nat) (args:List SV):Option St :=
 match lk st.heap b with
 | some (.cells e cs)=>match nth cs i,(T.ownE nm).isSome&&(T.emp nm args&&hasV st args) with
  | some .nils,true=>some { st with heap:=(st.nid+1,.opq)::upd st.heap b (.cells e (setN cs i (.sl st.nid))),sls:=(st.nid,.own (st.nid+1) nm (.int .i64 (.r 0 0)::args))::st.sls,nid:=st.nid+2 }
  | _,_=>none
 | _=>none
def nilOwns (T:Tb):St→List (Nat×Nat×Nat×List SV)→St
 | st,[]=>st
 | st,(b,i,nm,args)::l=>match nilOwn T st b i nm args with
  | some st'=>fStK st' fun st'=>nilOwns T st' l
  | none=>st
def splitA (T:Tb) (g:Nat) (args:List SV) (st:St):List (List SV×St) :=
 match T.split g with
 | none=>[(args,st)]
 | some i=>match nth args i with
  | some (.int k (.a id))=>match lk st.tab id with
   | some (lo,hi)=>bif decide (lo≤hi)&&decide (hi - lo≤8) then casesN k id i args st (hi - lo+1).toNat lo else [(args,st)]
   | none=>[(args,st)]
  | _=>[(args,st)]
inductive Rn where
 | z (k:Int)
 | nm (id:Nat)
structure Ren where
 lim:Nat
 l:List (Nat×Rn)
def rnf (ren:Ren) (id:Nat):Option Rn :=
 match lk ren.l id with
 | some r=>some r
 | none=>bif Nat.blt id ren.lim then some (.nm id) else none
def isNm (ren:Ren) (id j:Nat):Bool :=
 match rnf ren id with
 | some (.nm j')=>Nat.beq j' j
 | _=>false
def instI (b:St) (ren:Ren):SI→SI→Bool
 | .r lo hi,y=>match rngI b y with
  | some (l,h)=>decide (lo≤l)&&decide (h≤hi)
  | none=>false
 | .a id,.a j=>isNm ren id j||(match rnf ren id,rngI b (.a j) with
  | some (.z k),some (l,h)=>decide (l=k)&&decide (h=k)
  | _,_=>false)
 | .a id,.r l h=>match rnf ren id with
  | some (.z k)=>decide (l=k)&&decide (h=k)
  | _=>false
def cmpB (c:Cmp) (x y:Int):Bool :=
 match c with
 | .eq=>decide (x=y) | .ne=>!decide (x=y) | .lt=>decide (x<y) | .le=>decide (x≤y) | .gt=>decide (y<x) | .ge=>decide (y≤x)
def instC (b:St) (ren:Ren) (x y:SV):Bool :=
 match x,y with
 | .u,_=>true
 | .int k x,.int j y=>eqK k j&&instI b ren x y
 | .tt,.tt=>true
 | .ff,.ff=>true
 | .bool,v=>isB v
 | .cmp c id n,.cmp d j m=>Nat.beq c.toNat d.toNat&&(decide (n=m)&&isNm ren id j)
 | .cmp c id n,.tt=>match rnf ren id with
  | some (.z k)=>cmpB c k n
  | _=>false
 | .cmp c id n,.ff=>match rnf ren id with
  | some (.z k)=>!cmpB c k n
  | _=>false
 | .ptr i o,.ptr j p=>isNm ren i j&&Nat.beq o p
 | .nilp,.nilp=>true
 | .sp i,.sp j=>isNm ren i j
 | .sq i,.sq j=>isNm ren i j
 | .gp g o,.gp h p=>Nat.beq g h&&Nat.beq o p
 | .slc i o l c,.slc j p m d=>isNm ren i j&&(Nat.beq o p&&(Nat.beq l m&&Nat.beq c d))
 | .nils,.nils=>true
 | .sl i,.sl j=>isNm ren i j
 | .nilf,.nilf=>true
 | .nili,.nili=>true
 | .mapv i,.mapv j=>isNm ren i j
 | _,_=>false
def instL (b:St) (ren:Ren):List SV→List SV→Bool
 | [],[]=>true
 | v::l,w::m=>instC b ren v w&&instL b ren l m
 | _,_=>false
def inst2 (b:St) (ren:Ren) (x y:SV):Bool :=
 match x,y with
 | .agg l,.agg m=>instL b ren l m
 | x,y=>instC b ren x y
def instVs (b:St) (ren:Ren):List SV→List SV→Bool
 | [],[]=>true
 | v::l,w::m=>inst2 b ren v w&&instVs b ren l m
 | _,_=>false
def inst (b:St) (ren:Ren) (x y:SV):Bool :=
 match x,y with
 | .agg l,.agg m=>instL b ren l m
 | .tup l,.tup m=>instVs b ren l m
 | .iface t v,.iface s w=>Nat.beq t s&&inst2 b ren v w
 | x,y=>instC b ren x y
def instB (b:St) (ren:Ren):Blk→Blk→Bool
 | .cells e cs,.cells f ds=>Nat.beq e f&&instL b ren cs ds
 | .row e z s cs,.row f y r ds=>Nat.beq e f&&(Nat.beq z y&&(isNm ren s r&&(Nat.beq cs.length ds.length&&instL b ren cs ds)))
 | .opq,.opq=>true
 | .ro e cs,.cells f ds=>Nat.beq e f&&instL b ren cs ds
 | .ro e cs,.ro f ds=>Nat.beq e f&&instL b ren cs ds
 | _,_=>false
def fitH (b:St) (ren:Ren) (nid:Nat):List (Nat×Blk)→Bool
 | []=>true
 | (id,blk)::l=>Nat.blt id nid&&((match rnf ren id with
  | some (.nm j)=>(match lk b.heap j with
   | some blk'=>instB b ren blk blk'
   | none=>false)
  | _=>false)&&fitH b ren nid l)
def fitT (b:St) (ren:Ren):List (Nat×Int×Int)→Bool
 | []=>true
 | (id,lo,hi)::l=>(match rnf ren id with
  | some (.z k)=>decide (lo≤k)&&decide (k≤hi)
  | some (.nm j)=>(match lk b.tab j with
   | some (x,y)=>decide (lo≤x)&&decide (y≤hi)
   | none=>false)
  | none=>false)&&fitT b ren l
def isOpq:Option Blk→Bool
 | some .opq=>true
 | _=>false
def fitSl (b:St) (ren:Ren) (h:List (Nat×Blk)):SlI→SlI→Bool
 | .bytes x,.bytes y=>instI b ren x y
 | .row i n,.row k m=>isNm ren i k&&Nat.beq n m
 | .own c n l,.own d m k=>isNm ren c d&&(Nat.beq n m&&(instL b ren l k&&isOpq (lk h c)))
 | _,_=>false
def fitS (b:St) (ren:Ren) (h:List (Nat×Blk)):List (Nat×SlI)→Bool
 | []=>true
 | (id,s)::l=>(match rnf ren id with
  | some (.nm j)=>(match lk b.sls j with
   | some s'=>fitSl b ren h s s'
   | none=>false)
  | _=>false)&&fitS b ren h l
def notIn (ren:Ren) (j:Nat):List (Nat×Blk)→Bool
 | []=>true
 | (id,_)::l=>(match rnf ren id with
  | some (.nm k)=>!Nat.beq k j
  | _=>true)&&notIn ren j l
def oneH (ren:Ren):List (Nat×Blk)→Bool
 | []=>true
 | (id,_)::l=>(match rnf ren id with
  | some (.nm j)=>notIn ren j l
  | _=>false)&&oneH ren l
def below (n:Nat):List (Nat×Rn)→Bool
 | []=>true
 | (id,_)::l=>Nat.blt id n&&below n l
def hasF (x:Nat×List SV):List (Nat×List SV)→Bool
 | []=>false
 | y::l=>bif Nat.beq x.1 y.1&&SV.beqL x.2 y.2 then true else hasF x l
def resI (ren:Ren):SI→SI
 | .a id=>match rnf ren id with
  | some (.z k)=>.r k k
  | some (.nm j)=>.a j
  | none=>.a id
 | x=>x
def resV (ren:Ren):SV→SV
 | .int k x=>.int k (resI ren x)
 | .sl i=>match rnf ren i with
  | some (.nm j)=>.sl j
  | _=>.sl i
 | .cmp c id n=>match rnf ren id with
  | some (.z k)=>ofB (cmpB c k n)
  | some (.nm j)=>.cmp c j n
  | none=>.cmp c id n
 | x=>x
def resL (ren:Ren):List SV→List SV
 | []=>[]
 | x::l=>fC (resV ren x) fun x=>x::resL ren l
def fitF (b:St) (Z:Nat→List SV→St→Bool) (ren:Ren):List (Nat×List SV)→Bool
 | []=>true
 | (k,svs)::l=>(match resL ren svs with
  | svs'=>instL b ren svs svs'&&(hasF (k,svs') b.facts||Z k svs' b))&&fitF b Z ren l
def fit (S b:St) (Z:Nat→List SV→St→Bool) (ren:Ren):Bool :=
 fitH b ren S.nid S.heap&&(fitT b ren S.tab&&(fitS b ren S.heap S.sls&&(oneH ren S.heap&&(below S.nid ren.l&&(Nat.ble ren.lim S.nid&&fitF b Z ren S.facts)))))
def noZ:Nat→List SV→St→Bool:=fun _ _ _=>false
structure Hs where
 nxt:Nat
 ip:List (SI×SI×Nat)
 sp:List (Nat×Nat×Nat)
 tn:List (Nat×Int×Int)
 sn:List (Nat×SlI)
 hn:List (Nat×Blk)
 ra:List (Nat×Rn)
 rb:List (Nat×Rn)
def lkI:List (SI×SI×Nat)→SI→SI→Option Nat
 | [],_,_=>none
 | (x,y,n)::l,a,b=>bif x.beq a&&y.beq b then some n else lkI l a b
def lkP:List (Nat×Nat×Nat)→Nat→Nat→Option Nat
 | [],_,_=>none
 | (x,y,n)::l,a,b=>bif Nat.beq x a&&Nat.beq y b then some n else lkP l a b
def rnI:SI→Rn
 | .a i=>.nm i
 | .r l _=>.z l
def atomic:SI→Bool
 | .a _=>true
 | .r l h=>decide (l=h)
def pairI {α:Type} (a b:St) (x y:SI) (h:Hs) (k:SI→Hs→α):α :=
 bif x.beq y then k x h else
 match rngI a x,rngI b y with
 | some (l1,h1),some (l2,h2) =>
  bif atomic x&&atomic y then
   (match lkI h.ip x y with
   | some n=>k (.a n) h
   | none=>fN h.nxt fun n=>fI (mn l1 l2) fun l=>fI (mx h1 h2) fun u=>fN (n+1) fun n1=>k (.a n) { h with nxt:=n1,ip:=(x,y,n)::h.ip,tn:=(n,l,u)::h.tn,ra:=(n,rnI x)::h.ra,rb:=(n,rnI y)::h.rb })
  else k (.r (mn l1 l2) (mx h1 h2)) h
 | _,_=>k x h
def boolI (c:Cmp) (n:Int) (v:Bool):Option SI :=
 bif cmpB c n n then (bif v then some (.r n n) else bif cmpB c (n+1) n then (bif cmpB c (n - 1) n then none else some (.r (n - 1) (n - 1))) else some (.r (n+1) (n+1)))
 else (bif v then (bif cmpB c (n+1) n then some (.r (n+1) (n+1)) else bif cmpB c (n - 1) n then some (.r (n - 1) (n - 1)) else none) else some (.r n n))
def pairA {α:Type} (a b:St):List SV→List SV→Hs→(List SV→Hs→α)→α
 | .int k x::l,.int j y::m,h,q=>bif eqK k j then pairI a b x y h fun x h=>pairA a b l m h fun l h=>q (.int k x::l) h else pairA a b l m h fun l h=>q (.u::l) h
 | x::l,y::m,h,q=>bif SV.beq x y then pairA a b l m h fun l h=>q (x::l) h else pairA a b l m h fun l h=>q (.u::l) h
 | _,_,h,q=>q [] h
def pairC {α:Type} (a b:St) (x y:SV) (h:Hs) (q:SV→Hs→α):α :=
 match x,y with
 | .int k x,.int j y=>bif eqK k j then pairI a b x y h fun x h=>q (.int k x) h else q .u h
 | .cmp c i n,.cmp d j m=>bif Nat.beq c.toNat d.toNat&&decide (n=m) then pairI a b (.a i) (.a j) h fun x h=>(match x with
  | .a z=>q (.cmp c z n) h
  | _=>q .bool h) else q .bool h
 | .cmp c i n,.tt=>(match boolI c n true with
  | some y=>pairI a b (.a i) y h fun x h=>(match x with
   | .a z=>q (.cmp c z n) h
   | _=>q .bool h)
  | none=>q .bool h)
 | .cmp c i n,.ff=>(match boolI c n false with
  | some y=>pairI a b (.a i) y h fun x h=>(match x with
   | .a z=>q (.cmp c z n) h
   | _=>q .bool h)
  | none=>q .bool h)
 | .tt,.cmp c i n=>(match boolI c n true with
  | some y=>pairI a b y (.a i) h fun x h=>(match x with
   | .a z=>q (.cmp c z n) h
   | _=>q .bool h)
  | none=>q .bool h)
 | .ff,.cmp c i n=>(match boolI c n false with
  | some y=>pairI a b y (.a i) h fun x h=>(match x with
   | .a z=>q (.cmp c z n) h
   | _=>q .bool h)
  | none=>q .bool h)
 | .sl i,.sl j=>bif Nat.beq i j then q (.sl i) h else
  (match lkP h.sp i j with
  | some n=>q (.sl n) h
  | none=>match lk a.sls i,lk b.sls j with
   | some (.bytes x),some (.bytes y)=>pairI a b x y h fun z h=>fN h.nxt fun n=>fN (n+1) fun n1 =>
     q (.sl n) { h with nxt:=n1,sp:=(i,j,n)::h.sp,sn:=(n,.bytes z)::h.sn,ra:=(n,.nm i)::h.ra,rb:=(n,.nm j)::h.rb }
   | some (.own c m l),some (.own d m' l')=>bif Nat.beq m m' then
     fN h.nxt fun n=>fN (n+1) fun n1=>fN (n+2) fun n2 =>
     pairA a b l l' { h with nxt:=n2,sp:=(i,j,n)::h.sp,hn:=(n1,.opq)::h.hn,ra:=(n,.nm i)::(n1,.nm c)::h.ra,rb:=(n,.nm j)::(n1,.nm d)::h.rb } fun args h =>
     q (.sl n) { h with sn:=(n,.own n1 m args)::h.sn }
    else q .u h
   | _,_=>q .u h)
 | x,y=>bif SV.beqC x y then q x h else bif isB x&&isB y then q .bool h else q .u h
def pairL {α:Type} (a b:St):List SV→List SV→Hs→(List SV→Hs→α)→α
 | x::l,y::m,h,q=>pairC a b x y h fun v h=>fC v fun v=>pairL a b l m h fun l h=>q (v::l) h
 | _,_,h,q=>q [] h
def pair2 {α:Type} (a b:St) (x y:SV) (h:Hs) (q:SV→Hs→α):α :=
 match x,y with
 | .agg l,.agg m=>pairL a b l m h fun l h=>q (.agg l) h
 | x,y=>pairC a b x y h q
def pairVs {α:Type} (a b:St):List SV→List SV→Hs→(List SV→Hs→α)→α
 | x::l,y::m,h,q=>pair2 a b x y h fun v h=>fC v fun v=>pairVs a b l m h fun l h=>q (v::l) h
 | _,_,h,q=>q [] h
def pairV {α:Type} (a b:St) (x y:SV) (h:Hs) (q:SV→Hs→α):α :=
 match x,y with
 | .agg l,.agg m=>pairL a b l m h fun l h=>q (.agg l) h
 | .tup l,.tup m=>pairVs a b l m h fun l h=>q (.tup l) h
 | x,y=>pairC a b x y h q
def pairH {α:Type} (a b:St):List (Nat×Blk)→Hs→(List (Nat×Blk)→Hs→α)→α
 | [],h,q=>q [] h
 | (i,blk)::t,h,q=>match blk,lk b.heap i with
  | .cells e l,some (.cells f m)=>bif Nat.beq e f&&Nat.beq l.length m.length then pairL a b l m h fun cs h=>pairH a b t h fun r h=>q ((i,.cells e cs)::r) h else pairH a b t h q
  | .ro e l,some (.ro f m)=>bif Nat.beq e f&&Nat.beq l.length m.length then pairL a b l m h fun cs h=>pairH a b t h fun r h=>q ((i,.ro e cs)::r) h else pairH a b t h q
  | .row e z s l,some (.row f y r m)=>bif Nat.beq e f&&(Nat.beq z y&&(Nat.beq s r&&Nat.beq l.length m.length)) then pairL a b l m h fun cs h=>pairH a b t h fun r h=>q ((i,.row e z s cs)::r) h else pairH a b t h q
  | _,_=>pairH a b t h q
def pairS {α:Type} (a b:St):List (Nat×SlI)→Hs→(List (Nat×SlI)→Hs→α)→α
 | [],h,q=>q [] h
 | (i,s)::t,h,q=>match s,lk b.sls i with
  | .bytes x,some (.bytes y)=>pairI a b x y h fun z h=>pairS a b t h fun r h=>q ((i,.bytes z)::r) h
  | .row c n,some (.row d m)=>bif Nat.beq c d&&Nat.beq n m then pairS a b t h fun r h=>q ((i,.row c n)::r) h else pairS a b t h q
  | .own c n l,some (.own d m k)=>bif Nat.beq c d&&Nat.beq n m then pairA a b l k { h with hn:=(c,.opq)::h.hn } fun args h=>pairS a b t h fun r h=>q ((i,.own c n args)::r) h else pairS a b t h q
  | _,_=>pairS a b t h q
def pairT (b:St):List (Nat×Int×Int)→List (Nat×Int×Int)
 | []=>[]
 | (i,lo,hi)::t=>(match lk b.tab i with
  | some (x,y)=>(i,mn lo x,mx hi y)::pairT b t
  | none=>pairT b t)
def pairF (b:St):List (Nat×List SV)→List (Nat×List SV)
 | []=>[]
 | x::l=>bif hasF x b.facts then x::pairF b l else pairF b l
def appR {β:Type}:List β→List β→List β
 | [],m=>m
 | x::l,m=>x::appR l m
def pairO {α:Type} (x y:SV×St) (q:SV→St→Ren→Ren→α):α :=
 fN (bif Nat.ble x.2.nid y.2.nid then y.2.nid else x.2.nid) fun L =>
 pairV x.2 y.2 x.1 y.1 ⟨L,[],[],[],[],[],[],[]⟩ fun v h=>fV v fun v =>
 pairH x.2 y.2 x.2.heap h fun hp h =>
 pairS x.2 y.2 x.2.sls h fun sl h =>
 fStK ⟨appR hp h.hn,appR (pairT y.2 x.2.tab) h.tn,appR sl h.sn,h.nxt,pairF y.2 x.2.facts⟩ fun st =>
 q v st ⟨L,h.ra⟩ ⟨L,h.rb⟩
def above (n:Nat):List (Nat×Rn)→Bool
 | []=>true
 | (id,_)::l=>Nat.ble n id&&above n l
def caseO (v:SV) (st:St) (x:SV×St) (r:Ren):Bool :=
 inst x.2 r v x.1&&(fit st x.2 noZ r&&(Nat.ble x.2.nid r.lim&&above r.lim r.l))
def constI:SI→Option Int
 | .r l h=>bif decide (l=h) then some l else none
 | .a _=>none
def mayI (x y:SI):Bool :=
 match constI x,constI y with
 | some a,some b=>bif decide (a=0) then decide (b=0) else !decide (b=0)
 | _,_=>true
def mayF:List SV→List SV→Bool
 | .int _ x::_,.int _ y::_=>(match constI x,constI y with
  | some a,some b=>decide (a=b)
  | none,none=>true
  | _,_=>false)
 | _,_=>true
def mayV:SV→SV→Bool
 | .tt,.ff=>false
 | .ff,.tt=>false
 | .int _ x,.int _ y=>mayI x y
 | .agg l,.agg m=>mayF l m
 | .nils,.sl _=>false
 | .sl _,.nils=>false
 | .nilp,.ptr ..=>false
 | .ptr ..,.nilp=>false
 | _,_=>true
def mayJL:List SV→List SV→Bool
 | x::l,y::m=>mayV x y&&mayJL l m
 | _,_=>true
def mayJ:SV→SV→Bool
 | .tup l,.tup m=>mayJL l m
 | x,y=>mayV x y
def addJ (a:SV×St):Out→Out
 | []=>[a]
 | b::l=>bif mayJ a.1 b.1 then (match pairO b a fun v st rb ra=>(v,st,rb,ra) with
  | (v,st,rb,ra)=>bif caseO v st b rb&&caseO v st a ra then (v,st)::l else b::addJ a l)
  else b::addJ a l
def joinAll:Out→Out→Out
 | acc,[]=>acc
 | acc,a::l=>joinAll (addJ a acc) l
def joinO (T:Tb) (g:Nat) (l:Out):Out:=bif T.join g then joinAll [] l else l
def fOut:Out→Out
 | []=>[]
 | (v,st)::l=>fV v fun v=>fStK st fun st=>(v,st)::fOut l
def callF1 (T:Tb) (ex:Code→Sx→Option (List (X×Sx))) (g:Nat) (args:List SV) (st:St):Option Out :=
 match T.fn.get g with
 | none=>none
 | some fn=>match T.k g args st with
  | some (some r)=>some (fOut r)
  | some none=>none
  | none=>match fn.body with
   | none=>none
   | some c=>match fillT 0 args (mkT fn.ntmps 10 1 0) fun tm=>ex c (tm,st) with
    | none=>none
    | some l=>ends T fn.results.toList l
def callF (T:Tb) (ex:Code→Sx→Option (List (X×Sx))) (g:Nat) (args:List SV) (st:St):Option Out :=
 match T.fn.get g with
 | none=>none
 | some _=>match bindL (fun p=>callF1 T ex g p.1 p.2) (splitA T g args (nilOwns T st (T.pre g args st))) with
  | some l=>some (joinO T g l)
  | none=>none
def exec (T:Tb):Nat→Code→Sx→Option (List (X×Sx))
 | 0,_,_=>none
 | f+1,c,s =>
  match c with
  | .skip=>some [(.n,s)]
  | .label _=>some [(.n,s)]
  | .exit id=>some [(.x id,s)]
  | .ret=>some [(.r,s)]
  | .region _ ops true=>match drawRun T (callF T (exec T f)) ops.toList s with
   | some l=>some (nrm l)
   | none=>none
  | .region _ ops false=>match runOps T (callF T (exec T f)) ops.toList ops.toList s with
   | some l=>some (nrm l)
   | none=>none
  | .seq a b=>match exec T f a s with
   | some l=>thenL (exec T f b) l
   | none=>none
  | .cond c a b=>match evalB s.2 (rho s.1 c) with
   | some true=>exec T f a s
   | some false=>exec T f b s
   | none=>bif isB (rho s.1 c) then
     (match bindL (fun st=>setC s.1 c true fun tm=>fStT st fun st=>exec T f a (tm,st)) (assumeL s.2 (rho s.1 c) true),
      bindL (fun st=>setC s.1 c false fun tm=>fStT st fun st=>exec T f b (tm,st)) (assumeL s.2 (rho s.1 c) false) with
     | some l,some m=>some (l++m)
     | _,_=>none)
    else none
  | .block id b=>match exec T f b s with
   | some l=>some (blockL id l)
   | none=>none
  | .loop b=>loopX (exec T f b) 300 s
  | _=>none
def run (T:Tb) (fuel g:Nat) (args:List SV) (st:St):Option Out:=callF T (exec T fuel) g args st
end SE
end
end Go.Proofs.YtdgejnakakjgfaaGreatDoor
