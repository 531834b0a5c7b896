/- A session begun: the states, the outcomes. What each link says: its summaries. A run as a summary, where values of several parts are looked at part by part. What comes of a link's item: the contracts that it uses, its states. Parts of a function's code: runs cut, parts put together. A tick of a scene, in four parts: the states between them. What is told: states behind a call of the core; samples, danger: the runs. Code with a part whose run is given: the run round it. An item of a scene: its parts, the states between them. Policies that are made ones that may be; new machines: contracts, states. Policies checked, made ones that may be, new machines: contracts, runs. -/
import Derived.Test.YtdgejnakakjgfaaGreatDoorQ19
import Derived.Test.YtdgejnakakjgfaaGreatDoorQ12
import Derived.Test.YtdgejnakakjgfaaGreatDoorQ17
import Derived.KernelRfl
set_option linter.unusedVariables false
set_option linter.unusedSimpArgs false
set_option maxRecDepth 100000
namespace Go.Proofs.YtdgejnakakjgfaaGreatDoor
section
namespace SE
open Go.RowKit
set_option maxHeartbeats 0
def startT:List (Nat×Int×Int):=[(301,0,3),(142,1,1000),(149,1,3),(230,0,1),(231,0,1),(232,0,1),(233,0,1),(234,0,3),(235,0,3),(236,0,3)]
def startS:SE.St:=⟨[(2,.cells 145 tableCells)],startT,[],310,[(10,flags3++[A 149])]⟩
def startA (l:Nat):List SV:=[.ptr 2 0,N (Int.ofNat l),A 301,bytesS 32]
def sessNew:List SV:=[.tt,U 0 1000,U 0 1000,A 301]++rep 32 byteCell++[.bool,U 0 4294967295,.int .u64 (.a 1270)]
def tableNew (l:Nat):List SV :=
  match l with
  | 1=>[.cmp .ne 230 0,U 0 1000,U 0 1000]++sessNew++sessCells 232 235 271++sessCells 233 236 272++[A 142,A 149]
  | 2=>[.cmp .ne 230 0,U 0 1000,U 0 1000]++sessCells 231 234 270++sessNew++sessCells 233 236 272++[A 142,A 149]
  | _=>[.cmp .ne 230 0,U 0 1000,U 0 1000]++sessCells 231 234 270++sessCells 232 235 271++sessNew++[A 142,A 149]
def flagsNew (l:Nat):List SV :=
  match l with
  | 1=>[N 1,A 232,A 233]
  | 2=>[A 231,N 1,A 233]
  | _=>[A 231,A 232,N 1]
def startO (l:Nat):Out :=
  [(U 1 40,⟨[(2,.cells 145 tableCells)],startT,[],1300,[]⟩),(N 0,⟨[(2,.cells 145 (tableNew l))],startT,[],1300,[(10,flagsNew l++[A 149])]⟩)]
def startM (l:Nat):Sm:=⟨startS,startA l,startO l⟩
noncomputable def startR (l:Nat):Bool:=runFits 1000 [] (startO l) (run (TL [] joinT false) 60 107 (startA l) startS)
def startSel (args:List SV) (st:SE.St):Option (List SV→SE.St→Option Out) :=
  match args with
  | [_,s,_,_]=>match cstN st s with
    | some n=>bif Nat.ble 1 n&&Nat.ble n 3 then some (fN n fun n=>kSm (startM n) [] true) else none
    | none=>none
  | _=>none
def kStart (args:List SV) (st:SE.St):Option Out:=match startSel args st with | some kf=>kf args st | none=>none
def enL (l:Nat):List SV :=
  match l with
  | 1=>[N 1,N 0,N 0]
  | 2=>[N 0,N 1,N 0]
  | _=>[N 0,N 0,N 1]
def enO (l:Nat):SE.St:=upX (exX 4 (enL l) []) (roleF (enL l))
noncomputable abbrev kScene2:List (Nat×(List SV→SE.St→Option Out)):=(107,kStart)::kScene
end SE
end
section
namespace SE
open Go.RowKit
set_option maxHeartbeats 0
def joinP (g:Nat):Bool:=hasN [128,119,134,106] g
def joinA (g:Nat):Bool:=hasN [128,119,134,165,121] g
def exL:Out:=[(.tup [],exO 4)]
def exE (l:Nat):Out:=[(.tup [],exO 4),(.tup [],enO l)]
noncomputable def sayR (jn:Nat→Bool) (gi:Nat) (m:Sm):Bool:=runFits 100000 namedC m.outs (run (TL kScene2 jn false) 60 gi m.args m.S)
def rejectM (l:Nat):Sm:=⟨exX 0 en0 [],[.ptr 4 0,N (Int.ofNat l),U 1 100],exL⟩
def helloM (l:Nat):Sm:=⟨byX,[.ptr 4 0,N (Int.ofNat l),.sl 25],exL⟩
def proveM (l:Nat):Sm:=⟨byX,[.ptr 4 0,N (Int.ofNat l),.sl 25],exE l⟩
def beatM (l:Nat):Sm:=⟨onX l 0,[.ptr 4 0,N (Int.ofNat l),msgX (N 3) (U 0 4)],exL⟩
def byeM (l:Nat):Sm:=⟨onX l 0,[.ptr 4 0,N (Int.ofNat l),msgX (N 4) (U 0 4)],exL⟩
def askM (l:Nat):Sm:=⟨onX l 0,[.ptr 4 0,N (Int.ofNat l),msgX (N 5) (U 0 4)],exL⟩
def offer0M (l:Nat):Sm:=⟨onX l 0,[.ptr 4 0,N (Int.ofNat l),msgX (N 6) (N 0)],exL⟩
def offer1M (l:Nat):Sm:=⟨onX l 0,[.ptr 4 0,N (Int.ofNat l),msgX (N 6) (N 1)],exL⟩
def offer2M (l:Nat):Sm:=⟨onX l 0,[.ptr 4 0,N (Int.ofNat l),msgX (N 6) (N 2)],exL⟩
def offer3M (l:Nat):Sm:=⟨onX l 0,[.ptr 4 0,N (Int.ofNat l),msgX (N 6) (N 3)],exL⟩
def offer4M (l:Nat):Sm:=⟨onX l 0,[.ptr 4 0,N (Int.ofNat l),msgX (N 6) (N 4)],exL⟩
def acceptM (l:Nat):Sm:=⟨onX l 0,[.ptr 4 0,N (Int.ofNat l),msgX (N 7) (U 0 4)],exL⟩
def denyM (l:Nat):Sm:=⟨onX l 0,[.ptr 4 0,N (Int.ofNat l),msgX (N 8) (U 0 4)],exL⟩
def releaseM (l:Nat):Sm:=⟨onX l 0,[.ptr 4 0,N (Int.ofNat l),msgX (N 9) (U 0 4)],exL⟩
def modeM (l:Nat):Sm:=⟨onX l 0,[.ptr 4 0,N (Int.ofNat l),msgX (N 10) (U 0 4)],exL⟩
def pointM (l:Nat):Sm:=⟨onX l 1,[.ptr 4 0,N (Int.ofNat l),msgX (N 11) (U 0 4)],exL⟩
end SE
end
section
namespace SE
variable {X Y:Px} {own0:Nat→Prop} {w0 w:World} {E:Env} {st S:SE.St} {pc:Array Value} {ks:List (Nat×(List SV→SE.St→Option Out))} {jn:Nat→Bool} {nb:Bool}
def pairVs6 {α:Type} (L:Nat):List SV→List SV→List (Nat×Rn)→(List (Nat×Rn)→α)→α
  | x::l,y::m,acc,k=>pairMv5 L x y acc fun acc=>pairVs6 L l m acc k
  | _,_,acc,k=>k acc
def pairMv6 {α:Type} (L:Nat) (x y:SV) (acc:List (Nat×Rn)) (k:List (Nat×Rn)→α):α :=
  match x,y with
  | .tup l,.tup m=>pairVs6 L l m acc k
  | x,y=>pairMv5 L x y acc k
theorem pairVs6_acc {α:Type} {P:α→Prop} {L:Nat}:∀ {l m:List SV} {acc:List (Nat×Rn)} {k:List (Nat×Rn)→α},(∀ acc,P (k acc))→P (pairVs6 L l m acc k)
  | x::l,y::m,acc,k,h=>by
    simp only [pairVs6]
    exact pairMv5_acc fun acc=>pairVs6_acc h
  | [],_,acc,k,h=>by simp only [pairVs6]; exact h acc
  | _::_,[],acc,k,h=>by simp only [pairVs6]; exact h acc
theorem pairMv6_acc {α:Type} {P:α→Prop} {L:Nat} {x y:SV} {acc:List (Nat×Rn)} {k:List (Nat×Rn)→α} (h:∀ acc,P (k acc)):P (pairMv6 L x y acc k):=by
  unfold pairMv6
  split
  · exact pairVs6_acc h
  · exact pairMv5_acc h
def isCase6 (L:Nat) (named:List (Nat×Nat)) (p o:SV×SE.St):Bool :=
  match nameCells o.2 named with
  | b=>pairMv6 L p.1 o.1 [] fun acc=>mHeap5 L b p.2.heap acc fun acc=>mSls5 L b p.2.sls acc fun acc=>mRow5 L b p.2.heap acc fun acc=>caseZ p.1 p.2 (o.1,b) ⟨L,acc⟩
def anyCase6 (L:Nat) (named:List (Nat×Nat)) (o:SV×SE.St):Out→Bool
  | []=>false
  | p::l=>bif isCase6 L named p o then true else anyCase6 L named o l
def allCase6 (L:Nat) (named:List (Nat×Nat)) (outs:Out):Out→Bool
  | []=>true
  | o::l=>anyCase6 L named o outs&&allCase6 L named outs l
def runFits6 (L:Nat) (named:List (Nat×Nat)) (outs:Out):Option Out→Bool
  | some l=>nodupO outs&&allCase6 L named outs l
  | none=>false
theorem isCase6_ok {L:Nat} (hgl:GlOk X) (hZ:FzOk X zT) {named:List (Nat×Nat)} {p o:SV×SE.St} (h:isCase6 L named p o=true) {x:Value} (hx:R E o.1 x) (g:G X own0 w0 E o.2 w) :
    ∃ E',E.le E'∧R E' p.1 x∧G X own0 w0 E' p.2 w:=by
  unfold isCase6 at h
  obtain ⟨E1,hle,g1⟩:=nameCells_ok named g
  have:∀ b:Bool,(∃ acc,b=caseZ p.1 p.2 (o.1,nameCells o.2 named) ⟨L,acc⟩)→b=true→∃ E',E.le E'∧R E' p.1 x∧G X own0 w0 E' p.2 w:=by
    rintro b ⟨acc,e⟩ hb
    rw [e] at hb
    obtain ⟨k1,k2,k3⟩:=caseZ_ok hgl hZ hb (hx.mono hle) g1
    exact ⟨_,Env.le_trans hle k1,k2,k3⟩
  refine this _ ?_ h
  let Q:Bool→Prop:=fun r=>∃ acc,r=caseZ p.1 p.2 (o.1,nameCells o.2 named) ⟨L,acc⟩
  exact pairMv6_acc (P:=Q) fun acc=>mHeap5_acc (P:=Q) fun acc=>mSls5_acc (P:=Q) fun acc=>mRow5_acc (P:=Q) fun acc=>⟨acc,rfl⟩
theorem anyCase6_ok {L:Nat} (hgl:GlOk X) (hZ:FzOk X zT) {named:List (Nat×Nat)} {o:SV×SE.St}:∀ {outs:Out},anyCase6 L named o outs=true→∀ {x:Value},R E o.1 x→G X own0 w0 E o.2 w →
    ∃ p∈outs,∃ E',E.le E'∧R E' p.1 x∧G X own0 w0 E' p.2 w
  | p :: l,h,x,hx,g=>by
    simp only [anyCase6] at h
    cases hb:isCase6 L named p o with
    | true =>
      obtain ⟨E',h1,h2,h3⟩:=isCase6_ok hgl hZ hb hx g
      exact ⟨p,List.mem_cons_self,E',h1,h2,h3⟩
    | false =>
      rw [hb] at h
      obtain ⟨q,hq,r⟩:=anyCase6_ok hgl hZ h hx g
      exact ⟨q,List.mem_cons_of_mem _ hq,r⟩
theorem allCase6_ok {L:Nat} {named:List (Nat×Nat)} {outs:Out}:∀ {l:Out},allCase6 L named outs l=true→∀ o∈l,anyCase6 L named o outs=true
  | x::l,h,o,ho=>by
    simp only [allCase6,Bool.and_eq_true] at h
    rcases List.mem_cons.1 ho with rfl | ho
    · exact h.1
    · exact allCase6_ok h.2 o ho
theorem sm_run6 (hT:TabOk X) (hP:PkOk X) (hR:RkOk X) (hK:∀ own0 w0,KOk X own0 w0) (hgl:GlOk X) (hZ:FzOk X zT) {L fuel gi:Nat} {m:Sm} {named:List (Nat×Nat)}
    (e:runFits6 L named m.outs (run X.T fuel gi m.args m.S)=true):SmOk X gi m:=by
  cases hrun:run X.T fuel gi m.args m.S with
  | none=>rw [hrun] at e; cases e
  | some l =>
    rw [hrun] at e
    simp only [runFits6,Bool.and_eq_true] at e
    refine ⟨nodupO_ok e.1,fun own0 w0 E w vals g hr=>?_⟩
    refine (run_ok hT hP hR (hK own0 w0) fuel hrun g hr).mono fun e' w' he=>?_
    obtain ⟨o,ho,E',x,h1,h2,h3,h4⟩:=he
    obtain ⟨p,hp,E2,k1,k2,k3⟩:=anyCase6_ok hgl hZ (allCase6_ok e.2 o ho) h3 h4
    exact ⟨p,hp,E2,x,Env.le_trans h1 k1,h2,k2,k3⟩
theorem smL6 (hp:PolFit pc) (hK:KAll (Xc pc) ks) {L fuel gi:Nat} {m:Sm} {named:List (Nat×Nat)} (e:runFits6 L named m.outs (run (TL ks jn nb) fuel gi m.args m.S)=true):SmOk (Xc pc) gi m :=
  (sm_run6 (X:=XL pc ks jn nb) tabL pkL rkL (fun own0 w0=>kok (hK.tbl tblL) rfl own0 w0) (fun gg cs h=>glc_ok (pc:=pc) gg cs h)
    (fun own0 w0 E st w g k svs h=>fzc hp own0 w0 E st w (g.tbl tblL.symm) k svs h) e).tbl tblL.symm
end SE
end
section
namespace SE
open Go.RowKit
set_option maxHeartbeats 0
def selL (m:Nat→Sm) (args:List SV) (st:SE.St):Option (List SV→SE.St→Option Out) :=
  match args with
  | _::s::_=>match cstN st s with
    | some n=>bif Nat.ble 1 n&&Nat.ble n 3 then some (fN n fun n=>kSm (m n) namedC true) else none
    | none=>none
  | _=>none
def selO (args:List SV) (st:SE.St):Option (List SV→SE.St→Option Out) :=
  match args with
  | [_,_,.agg [_,_,_,t,_,_,_,_,_,_,_,_]]=>match cstN st t with
    | some 0=>selL offer0M args st
    | some 1=>selL offer1M args st
    | some 2=>selL offer2M args st
    | some 3=>selL offer3M args st
    | some 4=>selL offer4M args st
    | _=>none
  | _=>none
def selC (args:List SV) (st:SE.St):Option (List SV→SE.St→Option Out) :=
  match args with
  | [_,_,.agg [k,_,_,_,_,_,_,_,_,_,_,_]]=>match cstN st k with
    | some 10=>selL modeM args st
    | some 11=>selL pointM args st
    | _=>none
  | _=>none
def augF (st:SE.St):List (Nat×List SV)→List (Nat×List SV)
  | []=>[]
  | (k,[g,i,r])::l=>bif Nat.beq k 3&&excl st g 0 then (4,[i,r])::augF st l else augF st l
  | _::l=>augF st l
def aug (st:SE.St):SE.St:={ st with facts:=augF st st.facts++st.facts }
def kOf' (sel:List SV→SE.St→Option (List SV→SE.St→Option Out)) (args:List SV) (st:SE.St):Option Out :=
  match aug st with
  | st=>(match sel args st with | some kf=>kf args st | none=>none)
def takeT:List (Nat×Int×Int):=[(299,0,32),(142,1,1000),(149,1,3),(230,0,1),(231,0,1),(232,0,1),(233,0,1),(234,0,3),(235,0,3),(236,0,3)]
def takeS:SE.St:=⟨[(2,.cells 145 tableCells)],takeT,[(25,.bytes (.a 299))],310,[]⟩
def takeA (l:Nat):List SV:=[.ptr 2 0,N (Int.ofNat l),.sl 25]
def sessOn (r:Nat):List SV:=[.tt,U 0 1000,U 0 1000,A r]++rep 32 byteCell++[.bool,U 0 4294967295,.int .u64 (.a 1270)]
def tableOn (l:Nat):List SV :=
  match l with
  | 1=>[.cmp .ne 230 0,U 0 1000,U 0 1000]++sessOn 234++sessCells 232 235 271++sessCells 233 236 272++[A 142,A 149]
  | 2=>[.cmp .ne 230 0,U 0 1000,U 0 1000]++sessCells 231 234 270++sessOn 235++sessCells 233 236 272++[A 142,A 149]
  | _=>[.cmp .ne 230 0,U 0 1000,U 0 1000]++sessCells 231 234 270++sessCells 232 235 271++sessOn 236++[A 142,A 149]
def takeV (k:Int) (t:SV):SV:=.tup [.agg [N k,U 0 4294967295,A 1301,t,U 0 65535,A 1303,A 1304,.bool,U (-32768) 32767,U (-32768) 32767,U (-32768) 32767,U (-32768) 32767],N 0]
def takeO1 (l:Nat) (k:Int) (t:SV):SV×SE.St :=
  (takeV k t,⟨[(2,.cells 145 (tableOn l))],(230+l,1,1)::(1301,0,3)::(1303,0,4)::(1304,bif decide (k=11) then 1 else 0,3)::del takeT (230+l),[],1400,[]⟩)
def takeO (l:Nat):Out :=
  (.tup [zeroMsg,U 1 20],⟨[(2,.cells 145 tableCells)],takeT,[],1400,[]⟩)::(([3,4,5,7,8,9,10,11].map fun k=>takeO1 l k (U 0 4))++[0,1,2,3,4].map fun t=>takeO1 l 6 (N t))
def takeM (l:Nat):Sm:=⟨takeS,takeA l,takeO l⟩
noncomputable def takeR (l:Nat):Bool:=runFits6 1000 [] (takeO l) (run (TL kScene2 joinT false) 60 71 (takeA l) takeS)
def selN (m:Nat→Sm) (args:List SV) (st:SE.St):Option (List SV→SE.St→Option Out) :=
  match args with
  | _::s::_=>match cstN st s with
    | some n=>bif Nat.ble 1 n&&Nat.ble n 3 then some (fN n fun n=>kSm (m n) [] true) else none
    | none=>none
  | _=>none
def kTake (args:List SV) (st:SE.St):Option Out:=match selN takeM args st with | some kf=>kf args st | none=>none
noncomputable abbrev kItem:List (Nat×(List SV→SE.St→Option Out)) :=
  (67,kOf' (selL rejectM))::(69,kOf' (selL helloM))::(70,kOf' (selL proveM))::(111,kOf' (selL beatM))::(112,kOf' (selL byeM))::(113,kOf' (selL askM))::(114,kOf' selO) ::
    (71,kTake)::(115,kOf' (selL acceptM))::(116,kOf' (selL denyM))::(117,kOf' (selL releaseM))::(118,kOf' selC)::kScene2
def oldT:List (Nat×Int×Int):=[(231,0,1),(232,0,1),(233,0,1),(234,0,3),(235,0,3),(236,0,3),(237,0,1),(238,0,1),(239,0,1)]
end SE
end
section
namespace SE
variable {X Y:Px} {own0:Nat→Prop} {w0 w:World} {E:Env} {st S:SE.St} {pc:Array Value} {ks:List (Nat×(List SV→SE.St→Option Out))} {jn:Nat→Bool} {nb:Bool} {tm:TT} {a:Act}
structure At where
  x:SE.X
  sl:List (Nat×SV)
  S:SE.St
def sndL:List (Nat×SV)→List SV
  | []=>[]
  | (_,v)::l=>v::sndL l
def getsL (tm:TT):List (Nat×SV)→List SV
  | []=>[]
  | (i,_)::l=>tm.get i::getsL tm l
def tmL (n:Nat):List (Nat×SV)→TT
  | []=>mkT n 10 1 0
  | (i,v)::l=>setK (tmL n l) i v fun t=>t
def TT.same:TT→TT→Bool
  | .lf,.lf=>true
  | .nd _ l r,.nd _ m s=>l.same m&&r.same s
  | _,_=>false
def eqX:SE.X→SE.X→Bool
  | .n,.n=>true
  | .r,.r=>true
  | .x i,.x j=>Nat.beq i j
  | _,_=>false
theorem eqX_ok {x y:SE.X} (h:eqX x y=true):x=y:=by
  cases x <;> cases y <;> simp [eqX] at h
  · rfl
  · rw [h]
  · rfl
theorem TT.same_has:∀ {t u:TT},t.same u=true→∀ i,t.has i=u.has i
  | .lf,.lf,_,i=>rfl
  | .lf,.nd ..,h,i=>by simp [TT.same] at h
  | .nd ..,.lf,h,i=>by simp [TT.same] at h
  | .nd v l r,.nd v2 m s,h,i=>by
    simp only [TT.same,Bool.and_eq_true] at h
    simp only [TT.has,TT.same_has h.1,TT.same_has h.2]
def atCase (L n:Nat) (named:List (Nat×Nat)) (p:At) (o:SE.X×Sx):Bool :=
  eqX p.x o.1&&((mkT n 10 1 0).same o.2.1&&isCase6 L named (.tup (sndL p.sl),p.S) (.tup (getsL o.2.1 p.sl),o.2.2))
def anyAt (L n:Nat) (named:List (Nat×Nat)) (o:SE.X×Sx):List At→Bool
  | []=>false
  | p::l=>bif atCase L n named p o then true else anyAt L n named o l
def allAt (L n:Nat) (named:List (Nat×Nat)) (ps:List At):List (SE.X×Sx)→Bool
  | []=>true
  | o::l=>anyAt L n named o ps&&allAt L n named ps l
def atFits (L n:Nat) (named:List (Nat×Nat)) (ps:List At):Option (List (SE.X×Sx))→Bool
  | some l=>allAt L n named ps l
  | none=>false
theorem getsL_ok (f:FOk E tm a):∀ l:List (Nat×SV),∃ vs:List Value,RL E (getsL tm l) vs∧vs=l.map fun p=>a.tmps.getD p.1 undef
  | []=>⟨[],by simp [getsL,RL],rfl⟩
  | (i,v)::l=>by
    obtain ⟨vs,h1,h2⟩:=getsL_ok f l
    exact ⟨_::vs,RL_cons.2 ⟨f.slot i,h1⟩,by rw [h2]; rfl⟩
theorem tmL_ok (n:Nat) (hs:∀ i,(mkT n 10 1 0).has i=true→i<a.tmps.size) (hd:a.defers=[]):∀ l:List (Nat×SV),RL E (sndL l) (l.map fun p=>a.tmps.getD p.1 undef)→FOk E (tmL n l) a
  | [],_=>⟨fun i=>by simp only [tmL]; rw [TT.get_mkT]; trivial,hs,hd⟩
  | (i,v)::l,h=>by
    simp only [sndL,List.map_cons] at h
    obtain ⟨h1,h2⟩:=RL_cons.1 h
    simp only [tmL,setK_eq]
    exact (tmL_ok n hs hd l h2).refine i h1
theorem atCase_ok {L n:Nat} (hgl:GlOk X) (hZ:FzOk X zT) {named:List (Nat×Nat)} {p:At} {o:SE.X×Sx} (h:atCase L n named p o=true) (g:G X own0 w0 E o.2.2 w) (f:FOk E o.2.1 a) :
    p.x=o.1∧∃ E',E.le E'∧G X own0 w0 E' p.S w∧FOk E' (tmL n p.sl) a:=by
  simp only [atCase,Bool.and_eq_true] at h
  obtain ⟨h1,h2,h3⟩:=h
  refine ⟨eqX_ok h1,?_⟩
  obtain ⟨vs,k1,k2⟩:=getsL_ok f p.sl
  obtain ⟨E',q1,q2,q3⟩:=isCase6_ok hgl hZ h3 (x:=.tuple vs.toArray) (by simp only [R]; exact ⟨_,rfl,by simpa using k1⟩) g
  refine ⟨E',q1,q3,?_⟩
  simp only [R] at q2
  obtain ⟨us,e,q2⟩:=q2
  have:us=vs.toArray:=by simpa using e.symm
  subst this
  refine tmL_ok n (fun i hi=>f.has i (by rw [← TT.same_has h2]; exact hi)) f.defers _ ?_
  rw [← k2]
  simpa using q2
theorem anyAt_ok {L n:Nat} (hgl:GlOk X) (hZ:FzOk X zT) {named:List (Nat×Nat)} {o:SE.X×Sx}:∀ {ps:List At},anyAt L n named o ps=true→G X own0 w0 E o.2.2 w→FOk E o.2.1 a →
    ∃ p∈ps,p.x=o.1∧∃ E',E.le E'∧G X own0 w0 E' p.S w∧FOk E' (tmL n p.sl) a
  | p :: l,h,g,f=>by
    simp only [anyAt] at h
    cases hb:atCase L n named p o with
    | true=>exact ⟨p,List.mem_cons_self,atCase_ok hgl hZ hb g f⟩
    | false =>
      rw [hb] at h
      obtain ⟨q,hq,r⟩:=anyAt_ok hgl hZ h g f
      exact ⟨q,List.mem_cons_of_mem _ hq,r⟩
theorem allAt_ok {L n:Nat} {named:List (Nat×Nat)} {ps:List At}:∀ {l:List (SE.X×Sx)},allAt L n named ps l=true→∀ o∈l,anyAt L n named o ps=true
  | x::l,h,o,ho=>by
    simp only [allAt,Bool.and_eq_true] at h
    rcases List.mem_cons.1 ho with rfl | ho
    · exact h.1
    · exact allAt_ok h.2 o ho
def PartOk (X:Px) (n:Nat) (c:Code) (sl:List (Nat×SV)) (S:SE.St) (ps:List At):Prop :=
  ∀ own0 w0 E w (a:Act) (Q:Exit→Act→World→Prop),G X own0 w0 E S w→FOk E (tmL n sl) a →
    (∀ p∈ps,∀ E' (a':Act) w',E.le E'→G X own0 w0 E' p.S w'→FOk E' (tmL n p.sl) a'→Q (exitOf p.x) a' w')→c.wp X.P Q a w
theorem part_run (hT:TabOk X) (hP:PkOk X) (hR:RkOk X) (hK:∀ own0 w0,KOk X own0 w0) (hgl:GlOk X) (hZ:FzOk X zT) {L n fuel:Nat} {c:Code} {sl:List (Nat×SV)} {S:SE.St} {ps:List At} {named:List (Nat×Nat)}
    (e:atFits L n named ps (exec X.T fuel c (tmL n sl,S))=true):PartOk X n c sl S ps:=by
  intro own0 w0 E w a Q g f h
  cases hrun:exec X.T fuel c (tmL n sl,S) with
  | none=>rw [hrun] at e; cases e
  | some l =>
    rw [hrun] at e
    refine exec_ok hT hP hR (hK own0 w0) fuel c (tmL n sl,S) l hrun E a w Q g f fun o ho E' a' w' hle g' f'=>?_
    obtain ⟨p,hp,hx,E2,h1,h2,h3⟩:=anyAt_ok hgl hZ (allAt_ok e o ho) g' f'
    rw [← hx]
    exact h p hp E2 a' w' (Env.le_trans hle h1) h2 h3
theorem PartOk.seq {n:Nat} {c d:Code} {sl:List (Nat×SV)} {S:SE.St} {ps qs:List At} (h:PartOk X n c sl S ps) (hn:∀ p∈ps,p.x=.n∧PartOk X n d p.sl p.S qs):PartOk X n (.seq c d) sl S qs:=by
  intro own0 w0 E w a Q g f hq
  refine wp_seq (h own0 w0 E w a _ g f fun p hp E' a' w' hle g' f'=>?_)
  obtain ⟨hx,hd⟩:=hn p hp
  rw [hx]
  exact hd own0 w0 E' w' a' Q g' f' fun q hq' E2 a2 w2 hle2 g2 f2=>hq q hq' E2 a2 w2 (Env.le_trans hle hle2) g2 f2
theorem PartOk.tbl (t:Tbl X Y) {n:Nat} {c:Code} {sl:List (Nat×SV)} {S:SE.St} {ps:List At} (h:PartOk X n c sl S ps):PartOk Y n c sl S ps:=by
  intro own0 w0 E w a Q g f hq
  rw [t.P]
  exact h own0 w0 E w a Q (g.tbl t.symm) f fun p hp E' a' w' hle g' f'=>hq p hp E' a' w' hle (g'.tbl t) f'
theorem partL (hp:PolFit pc) (hK:KAll (Xc pc) ks) {L n fuel:Nat} {c:Code} {sl:List (Nat×SV)} {S:SE.St} {ps:List At} {named:List (Nat×Nat)}
    (e:atFits L n named ps (exec (TL ks jn nb) fuel c (tmL n sl,S))=true):PartOk (Xc pc) n c sl S ps :=
  (part_run (X:=XL pc ks jn nb) tabL pkL rkL (fun own0 w0=>kok (hK.tbl tblL) rfl own0 w0) (fun gg cs h=>glc_ok (pc:=pc) gg cs h)
    (fun own0 w0 E st w g k svs h=>fzc hp own0 w0 E st w (g.tbl tblL.symm) k svs h) e).tbl tblL.symm
def execs (T:Tb) (fuel:Nat):List Code→Sx→Option (List (SE.X×Sx))
  | [],s=>some [(.n,s)]
  | c::cs,s=>match exec T fuel c s with
    | some l=>thenL (execs T fuel cs) l
    | none=>none
def seqs:List Code→Code→Code
  | [],r=>r
  | c::cs,r=>.seq c (seqs cs r)
theorem execs_ok (hT:TabOk X) (hP:PkOk X) (hR:RkOk X) (hK:∀ own0 w0,KOk X own0 w0) {fuel:Nat} {r:Code}:∀ {cs:List Code} {s:Sx} {l:List (SE.X×Sx)},execs X.T fuel cs s=some l→∀ {E:Env} {a:Act} {w:World} {Q:Exit→Act→World→Prop},
    G X own0 w0 E s.2 w→FOk E s.1 a→PostX X own0 w0 E l (Exit.then (r.wp X.P Q) Q)→(seqs cs r).wp X.P Q a w
  | [],s,l,e,E,a,w,Q,g,f,h=>by
    simp only [execs,Option.some.injEq] at e
    subst e
    exact h (.n,s) List.mem_cons_self E a w (Env.le_refl E) g f
  | c :: cs,s,l,e,E,a,w,Q,g,f,h=>by
    simp only [execs] at e
    cases h1:exec X.T fuel c s with
    | none=>simp only [h1] at e; cases e
    | some m =>
      simp only [h1] at e
      simp only [seqs]
      refine wp_seq (exec_ok hT hP hR (hK own0 w0) fuel c s m h1 E a w _ g f fun p hp E' a' w' hle g' f'=>?_)
      obtain ⟨xe,s'⟩:=p
      obtain ⟨k1,k2⟩:=thenL_mem e xe s' hp
      cases xe with
      | n =>
        obtain ⟨m',q1,q2⟩:=k1 rfl
        exact execs_ok hT hP hR hK q1 g' f' (h.mono hle q2)
      | x id=>exact h (.x id,s') (k2 (by simp)) E' a' w' hle g' f'
      | r=>exact h (.r,s') (k2 (by simp)) E' a' w' hle g' f'
theorem parts_run (hT:TabOk X) (hP:PkOk X) (hR:RkOk X) (hK:∀ own0 w0,KOk X own0 w0) (hgl:GlOk X) (hZ:FzOk X zT) {L n fuel:Nat} {cs:List Code} {r:Code} {sl:List (Nat×SV)} {S:SE.St} {ps qs:List At} {named:List (Nat×Nat)}
    (e:atFits L n named ps (execs X.T fuel cs (tmL n sl,S))=true) (hn:∀ p∈ps,p.x=.n∧PartOk X n r p.sl p.S qs):PartOk X n (seqs cs r) sl S qs:=by
  intro own0 w0 E w a Q g f h
  cases hrun:execs X.T fuel cs (tmL n sl,S) with
  | none=>rw [hrun] at e; cases e
  | some l =>
    rw [hrun] at e
    refine execs_ok hT hP hR hK hrun g f fun o ho E' a' w' hle g' f'=>?_
    obtain ⟨p,hp,hx,E2,h1,h2,h3⟩:=anyAt_ok hgl hZ (allAt_ok e o ho) g' f'
    obtain ⟨hxn,hpart⟩:=hn p hp
    rw [← hx,hxn]
    exact hpart own0 w0 E2 w' a' Q h2 h3 fun q hq E3 a3 w3 hle3 g3 f3=>h q hq E3 a3 w3 (Env.le_trans hle (Env.le_trans h1 hle3)) g3 f3
theorem partsL (hp:PolFit pc) (hK:KAll (Xc pc) ks) {L n fuel:Nat} {cs:List Code} {r:Code} {sl:List (Nat×SV)} {S:SE.St} {ps qs:List At} {named:List (Nat×Nat)}
    (e:atFits L n named ps (execs (TL ks jn nb) fuel cs (tmL n sl,S))=true) (hn:∀ p∈ps,p.x=.n∧PartOk (Xc pc) n r p.sl p.S qs):PartOk (Xc pc) n (seqs cs r) sl S qs :=
  (parts_run (X:=XL pc ks jn nb) tabL pkL rkL (fun own0 w0=>kok (hK.tbl tblL) rfl own0 w0) (fun gg cs h=>glc_ok (pc:=pc) gg cs h)
    (fun own0 w0 E st w g k svs h=>fzc hp own0 w0 E st w (g.tbl tblL.symm) k svs h) e (fun p hp'=>⟨(hn p hp').1,(hn p hp').2.tbl tblL⟩)).tbl tblL.symm
theorem sm_part (hX:X.P=Tryz.prog) {gi:Nat} {fn:Func} {c:Code} {args:List SV} {S:SE.St} {ps:List At} {outs:Out} (hf:Tryz.prog.funcs[gi]?=some fn) (hb:fn.body=some c) (hr:fn.results=#[]) (hn:nodupO outs=true)
    (h:∀ own0 w0 E w (a:Act) (Q:Exit→Act→World→Prop),G X own0 w0 E S w→FOk E (fill2 0 args (mkT fn.ntmps 10 1 0)) a→(∀ p∈ps,∀ E' (a':Act) w',E.le E'→G X own0 w0 E' p.S w'→FOk E' (tmL fn.ntmps p.sl) a'→Q (exitOf p.x) a' w')→c.wp X.P Q a w)
    (ho:∀ p∈ps,(p.x=.n∨p.x=.r)∧(.tup [],p.S)∈outs):SmOk X gi ⟨S,args,outs⟩:=by
  refine ⟨nodupO_ok hn,fun own0 w0 E w vals g hrl=>?_⟩
  refine calls_of_wp (by rw [hX]; exact hf) hb (h own0 w0 E w _ _ g (FOk.start hrl fn.ntmps) fun p hp E' a' w' hle g' f'=>?_)
  obtain ⟨hx,hm⟩:=ho p hp
  have hfin:∃ v,(results fn a'.tmps).run X.P w'=.ok v w'∧Outs X own0 w0 E outs (.returned v) w':=by
    refine ⟨.tuple #[],?_,⟨_,hm,E',_,hle,rfl,by simp [R,RL],g'⟩⟩
    unfold results
    rw [hr]
    simp
  rcases hx with hx | hx <;> rw [hx]
  · exact ⟨f'.defers,hfin⟩
  · exact ⟨f'.defers,hfin⟩
end SE
end
section
namespace SE
open Go.RowKit
set_option maxHeartbeats 0
noncomputable def codeOf (g:Nat):Code:=match fnT.get g with | some f=>(match f.body with | some c=>c | none=>.skip) | none=>.skip
noncomputable def nthC:Nat→Code→Code
  | 0,.seq a _=>a
  | 0,c=>c
  | n+1,.seq _ b=>nthC n b
  | _+1,c=>c
noncomputable def tailC:Nat→Code→Code
  | 0,c=>c
  | n+1,.seq _ b=>tailC n b
  | _+1,c=>c
def lfK (k:Nat) (id:Nat):Rn:=bif keepN id then .nm id else fN (k*100000+id) fun n=>.nm n
def roleK (b:Nat):List (Nat×List SV):=[(12,[N 0,A (b+231),A (b+234),A 234]),(12,[N 0,A (b+232),A (b+235),A 235]),(12,[N 0,A (b+233),A (b+236),A 236])]
def upK (k:Nat) (S:SE.St):SE.St :=
  { heap:=mvH (lfK k) S.heap,tab:=oldT++mvT (lfK k) S.tab,sls:=mvS true (lfK k) S.sls,nid:=k*100000+400,facts:=roleK (k*100000)++mvF (lfK k) S.facts }
def tkS (k:Nat) (n:Int):SE.St:=upK k (ltX n en0)
def slS:List (Nat×SV):=[(0,.ptr 4 0)]
def tkA (k:Nat) (n:Int):List At:=[⟨.n,slS,tkS k n⟩]
noncomputable def partR (L:Nat) (cs:List Code) (S:SE.St) (ps:List At):Bool:=atFits L 105 namedC ps (execs (TL kScene2 joinT false) 60 cs (tmL 105 slS,S))
noncomputable def tickRB:Bool:=partR 300000 [nthC 1 (codeOf 53),nthC 2 (codeOf 53),nthC 3 (codeOf 53)] (tkS 2 10) (tkA 3 12)
noncomputable def tickRD:Bool:=partR 400000 [nthC 4 (codeOf 53)] (tkS 3 12) (tkA 4 18)
noncomputable def tickRF:Bool:=partR 1100000 [tailC 6 (codeOf 53)] (tkS 10 22) (tkA 11 22)
def sessG (gone:Bool) (f r s:Nat):List SV:=bif gone then [.ff,N 0,N 0,N 0]++rep 32 byteCell++[.ff,N 0,.int .u64 (.r 0 0)] else sessCells f r s
def tableG (g0 g1 g2 g3:Bool):List SV:=(bif g0 then [.ff,N 0,N 0] else [.cmp .ne 230 0,U 0 1000,U 0 1000])++sessG g1 231 234 270++sessG g2 232 235 271++sessG g3 233 236 272++[A 142,A 149]
def goneL (g0 g1 g2 g3:Bool):List SV:=(bif g0 then [N 0] else [])++((bif g1 then [N 1] else [])++((bif g2 then [N 2] else [])++(bif g3 then [N 3] else [])))
def rowH:List SV→List (Nat×Blk)
  | []=>[]
  | l=>[(100040,.row 3 1 100041 l)]
def rowS:List SV→List (Nat×SlI)
  | []=>[]
  | l=>[(100041,.row 100040 l.length)]
def goneS (g0 g1 g2 g3:Bool):SE.St where
  heap:=rowH (goneL g0 g1 g2 g3)++upd (exX 0 en0 []).heap 2 (.cells 145 (tableG g0 g1 g2 g3))
  tab:=(exX 0 en0 []).tab
  sls:=rowS (goneL g0 g1 g2 g3)++(exX 0 en0 []).sls
  nid:=100400
  facts:=(exX 0 en0 []).facts
def goneSl (g0 g1 g2 g3:Bool):List (Nat×SV) :=
  match goneL g0 g1 g2 g3 with
  | []=>[(0,.ptr 4 0),(15,.nils),(16,N 0),(17,N 0)]
  | l=>[(0,.ptr 4 0),(15,.sl 100041),(16,N (Int.ofNat l.length)),(17,N 0)]
def goneA (g0 g1 g2 g3:Bool):At:=⟨.n,goneSl g0 g1 g2 g3,goneS g0 g1 g2 g3⟩
def goneAll:List At:=[true,false].flatMap fun a=>[true,false].flatMap fun b=>[true,false].flatMap fun c=>[true,false].map fun d=>goneA a b c d
noncomputable def tickR0:Bool:=atFits 100000 105 [] goneAll (execs (TL kScene2 joinT false) 60 [nthC 0 (nthC 0 (codeOf 53))] (tmL 105 slS,exX 0 en0 []))
noncomputable def tickR1 (g0 g1 g2 g3:Bool):Bool:=atFits 200000 105 namedC (tkA 2 10) (execs (TL kScene2 joinT false) 60 [tailC 1 (nthC 0 (codeOf 53))] (tmL 105 (goneSl g0 g1 g2 g3),goneS g0 g1 g2 g3))
end SE
end
section
namespace SE
open Go.RowKit
set_option maxHeartbeats 0
def lfT (id:Nat):Rn:=bif keepN id then .nm id else fN (2000000+id) fun n=>.nm n
def roleT (en:List SV):List (Nat×List SV) :=
  match en with
  | [a,b,c]=>[(12,[a,A 2000231,A 2000234,A 234]),(12,[b,A 2000232,A 2000235,A 235]),(12,[c,A 2000233,A 2000236,A 236])]
  | _=>[]
def tlHead:List SV:=[A 2000214,A 2000215,A 2000220,A 2000221,A 2000222,A 2000223,I64,I64,I64,I64,I64,I64]
def tlV:SV:=.agg (tlHead++[.sl 2000031,.sl 2000032]++rep 32 byteCell)
def nowHead:List SV:=[A 214,A 215,A 220,A 221,A 222,A 223,I64,I64,I64,I64,I64,I64]
def tlN:SV:=.agg (nowHead++[.nils,.nils]++rep 32 byteCell)
def newF:List SV:=[A 2000231,A 2000232,A 2000233]
def newB3:List SV:=[A 2000237,A 2000238,A 2000239]
def tlS (n:Int) (ws en:List SV) (tb:List (Nat×Int×Int)) (fs:List (Nat×List SV)):SE.St where
  heap:=(2000006,.opq)::(2000007,.opq)::mvH lfT coreHeap
  tab:=tb++(oldT++mvT lfT (polTab++coreTab))
  sls:=(2000031,.own 2000006 3 [U 0 n])::(2000032,.own 2000007 2 ([U 0 n,A 231,A 232,A 233,A 237,A 238,A 239]++newF++ws++en))::mvS true lfT coreSls
  nid:=2000400
  facts:=fs++(roleT en++mvF lfT coreFacts)
def tlE (n:Int) (en:List SV):SV×SE.St:=(tlV,tlS n newB3 en [] [])
def lateB:List SV:=[A 2000246,A 2000247,A 2000248]
def tlL (n:Int) (en:List SV):SV×SE.St:=(tlV,tlS n lateB en [(2000246,0,1),(2000247,0,1),(2000248,0,1)] [(7,[A 2000237,A 2000246]),(7,[A 2000238,A 2000247]),(7,[A 2000239,A 2000248])])
noncomputable def coreR (ks:List (Nat×(List SV→SE.St→Option Out))) (gi:Nat) (m:Sm):Bool:=runFits 2000000 namedC m.outs (run (TL ks joinT false) 60 gi m.args m.S)
def sampV:SV:=.agg [.bool,I64,I64,I64,I64,.bool]
def giveM:Sm:=⟨exX 0 en0 [(200,0,0)],[.ptr 4 0],[(.tup [],exO 4)]⟩
def flyM:Sm:=⟨exX 0 en0 [(200,0,0)],[.ptr 4 0,sampV],[(.tup [],exO 4)]⟩
def overM:Sm:=⟨exX 0 en0 [],[.ptr 4 0],[(.tup [],exO 4)]⟩
noncomputable abbrev kSam:List (Nat×(List SV→SE.St→Option Out)):=(76,kSm giveM namedC true)::(77,kSm flyM namedC true)::(78,kSm overM namedC true)::kScene2
def sampM:Sm:=⟨exX 0 en0 [],[.ptr 4 0,sampV],[(.tup [],upK 3 (exX 4 en0 []))]⟩
noncomputable def sampR:Bool:=runFits 300000 namedC sampM.outs (run (TL kSam joinT false) 60 51 sampM.args sampM.S)
def hlthF:Sm:=⟨exX 0 en0 [],[.ptr 4 0,.ff],[(.tup [],exO 4)]⟩
def slH:List (Nat×SV):=[(1,.tt),(0,.ptr 4 0)]
def hlA:At:=⟨.n,slS,upK 1 (exX 4 en0 [])⟩
def bitH (l:List Nat) (n:Nat):Int:=bif hasN l n then 1 else 0
def rowHL:List Nat→List (Nat×Blk)
  | []=>[]
  | l=>[(200040,.row 112 4 200041 (askCells l))]
def rowSL:List Nat→List (Nat×SlI)
  | []=>[]
  | l=>[(200041,.row 200040 l.length)]
def slL:List Nat→List (Nat×SV)
  | []=>[(0,.ptr 4 0),(51,.nils),(52,N 0),(53,N 0)]
  | l=>[(0,.ptr 4 0),(51,.sl 200041),(52,N (Int.ofNat l.length)),(53,N 0)]
def hlS (l:List Nat):SE.St :=
  (fun S:SE.St=>{ heap:=rowHL l++(200005,.opq)::del (upd S.heap 3 (.cells 158 [.sl 200030,A 148,C64])) 100005,tab:=(100237,bitH l 1,bitH l 1)::(100238,bitH l 2,bitH l 2)::(100239,bitH l 3,bitH l 3)::S.tab,sls:=rowSL l++(200030,.own 200005 1 [U 0 3,A 100237,A 100238,A 100239,A 148])::del S.sls 100030,nid:=200400,facts:=S.facts }) (upK 1 (exX 4 en0 []))
def hlB (l:List Nat):At:=⟨.n,slL l,hlS l⟩
def hlC:At:=⟨.n,slS,upK 3 (ltX 10 en0)⟩
def hlD:At:=⟨.n,slS,upK 4 (ltX 10 en0)⟩
noncomputable def hlR (L:Nat) (named:List (Nat×Nat)) (cs:List Code) (p:At) (qs:List At):Bool:=atFits L 83 named qs (execs (TL kScene2 joinT false) 60 cs (tmL 83 p.sl,p.S))
noncomputable def hlRA:Bool:=hlR 100000 namedC [nthC 0 (codeOf 52),nthC 1 (codeOf 52),nthC 2 (codeOf 52),nthC 3 (codeOf 52)] ⟨.n,slH,exX 0 en0 []⟩ [hlA]
noncomputable def hlRB:Bool:=hlR 200000 [] [nthC 0 (nthC 4 (codeOf 52))] hlA (allSeqs.map hlB)
noncomputable def hlRC (l:List Nat):Bool:=hlR 300000 namedC [tailC 1 (nthC 4 (codeOf 52))] (hlB l) [hlC]
noncomputable def hlRD:Bool:=hlR 400000 namedC [tailC 5 (codeOf 52)] hlC [hlD]
def hlthT:Sm:=⟨exX 0 en0 [],[.ptr 4 0,.tt],[(.tup [],upK 4 (ltX 10 en0))]⟩
def kSamp:List SV→SE.St→Option Out:=kSm sampM namedC true
def selH (args:List SV) (st:SE.St):Option (List SV→SE.St→Option Out) :=
  match args with
  | [_,.ff]=>some (kSm hlthF namedC true)
  | [_,.tt]=>some (kSm hlthT namedC true)
  | _=>none
def kHlth (args:List SV) (st:SE.St):Option Out:=match selH args st with | some kf=>kf args st | none=>none
noncomputable abbrev kCore1:List (Nat×(List SV→SE.St→Option Out)):=(51,kSamp)::(52,kHlth)::kScene2
def nowM:Sm:=⟨coreSt,[.ptr 1 0],[(tlN,{ coreSt with nid:=2000400 })]⟩
def sampleM:Sm:=⟨coreSt,[.ptr 1 0,sampV],[tlE 4 en0]⟩
def healthF:Sm:=⟨coreSt,[.ptr 1 0,.ff],[tlE 4 en0]⟩
def healthT:Sm:=⟨coreSt,[.ptr 1 0,.tt],[tlL 10 en0]⟩
end SE
end
section
namespace SE
variable {X Y:Px} {own0:Nat→Prop} {w0 w:World} {E:Env} {st S:SE.St} {pc:Array Value} {ks:List (Nat×(List SV→SE.St→Option Out))} {jn:Nat→Bool} {nb:Bool} {tm:TT} {a:Act}
inductive Sk where
  | run | hook
  | seq (a b:Sk) | cond (a b:Sk) | block (b:Sk)
abbrev Hook:=Sx→Option (List (SE.X×Sx))
def hkAt (D:Code):Sk→Code→Prop
  | .hook,c=>c=D
  | .seq p q,.seq a b=>hkAt D p a∧hkAt D q b
  | .cond p q,.cond _ a b=>hkAt D p a∧hkAt D q b
  | .block p,.block _ b=>hkAt D p b
  | _,_=>True
def execK (T:Tb) (f:Nat) (H:Hook):Sk→Code→Sx→Option (List (SE.X×Sx))
  | .run,c,s=>exec T f c s
  | .hook,c,s=>H s
  | .seq p q,.seq a b,s=>match execK T f H p a s with
    | some l=>thenL (execK T f H q b) l
    | none=>none
  | .cond p q,.cond c a b,s=>match evalB s.2 (rho s.1 c) with
    | some true=>execK T f H p a s
    | some false=>execK T f H q b s
    | none=>bif isB (rho s.1 c) then
        (match bindL (fun st=>setC s.1 c true fun tm=>fStT st fun st=>execK T f H p a (tm,st)) (assumeL s.2 (rho s.1 c) true),
          bindL (fun st=>setC s.1 c false fun tm=>fStT st fun st=>execK T f H q b (tm,st)) (assumeL s.2 (rho s.1 c) false) with
        | some l,some m=>some (l++m)
        | _,_=>none)
      else none
  | .block p,.block id b,s=>match execK T f H p b s with
    | some l=>some (blockL id l)
    | none=>none
  | _,_,_=>none
def HookOk (X:Px) (own0:Nat→Prop) (w0:World) (D:Code) (H:Hook):Prop :=
  ∀ s l,H s=some l→∀ E a w (Q:Exit→Act→World→Prop),G X own0 w0 E s.2 w→FOk E s.1 a→PostX X own0 w0 E l Q→D.wp X.P Q a w
theorem execK_ok (hT:TabOk X) (hP:PkOk X) (hR:RkOk X) (hK:KOk X own0 w0) {f:Nat} {D:Code} {H:Hook} (hH:HookOk X own0 w0 D H):∀ (p:Sk) (c:Code),hkAt D p c→∀ s l,execK X.T f H p c s=some l →
    ∀ E a w (Q:Exit→Act→World→Prop),G X own0 w0 E s.2 w→FOk E s.1 a→PostX X own0 w0 E l Q→c.wp X.P Q a w
  | .run=>fun c _ s l e=>exec_ok hT hP hR hK f c s l (by simpa only [execK] using e)
  | .hook=>fun c hd s l e=>by
    have:c=D:=by simpa only [hkAt] using hd
    subst this
    exact hH s l (by simpa only [execK] using e)
  | .seq p q=>by
    have ihp:=execK_ok (f:=f) hT hP hR hK hH p
    have ihq:=execK_ok (f:=f) hT hP hR hK hH q
    intro c hd s l e E a w Q g fo h
    cases c <;> simp only [execK] at e <;> try cases e
    case seq x y =>
      cases h1:execK X.T f H p x s with
      | none=>simp only [h1] at e; cases e
      | some m =>
        simp only [h1] at e
        refine wp_seq (ihp x hd.1 s m h1 E a w _ g fo fun p hp E' a' w' hle g' f'=>?_)
        obtain ⟨xe,s'⟩:=p
        obtain ⟨k1,k2⟩:=thenL_mem e xe s' hp
        cases xe with
        | n =>
          obtain ⟨m',q1,q2⟩:=k1 rfl
          exact ihq y hd.2 s' m' q1 E' a' w' _ g' f' (h.mono hle q2)
        | x id=>exact h (.x id,s') (k2 (by simp)) E' a' w' hle g' f'
        | r=>exact h (.r,s') (k2 (by simp)) E' a' w' hle g' f'
  | .cond p q => by
    have ihp:=execK_ok (f:=f) hT hP hR hK hH p
    have ihq:=execK_ok (f:=f) hT hP hR hK hH q
    intro c hd s l e E a w Q g fo h
    cases c <;> simp only [execK] at e <;> try cases e
    case cond c x y =>
      have hv:=fo.eval c
      cases hb:evalB s.2 (rho s.1 c) with
      | some b =>
        have hv':=evalB_ok g hb hv
        simp only [hb] at e
        refine wp_cond_split hv' (fun ht=>?_) (fun ht=>?_) <;> subst ht <;> simp only at e
        · exact ihp x hd.1 s l e E a w Q g fo h
        · exact ihq y hd.2 s l e E a w Q g fo h
      | none =>
        simp only [hb,cond_eq_ite] at e
        split at e
        · rename_i hi
          obtain ⟨b,hv'⟩:=isB_ok hi hv
          have hs:R E (rho s.1 c) (.bool b):=by rw [← hv']; exact hv
          obtain ⟨st',ha,g'⟩:=assumeL_ok g hs
          have f':=fo.setC hv'
          simp only [setC_eq,fSt_eq,fStM_eq,fStT_eq] at e
          revert e
          split
          · rename_i l m h1 h2
            intro e
            cases e
            refine wp_cond_split hv' (fun ht=>?_) (fun ht=>?_) <;> subst ht
            · obtain ⟨m',hm1,hm2⟩:=bindL_mem h1 st' ha
              exact ihp x hd.1 _ m' hm1 E a w Q g' f' (h.mono (Env.le_refl E) fun p hp=>List.mem_append_left _ (hm2 p hp))
            · obtain ⟨m',hm1,hm2⟩:=bindL_mem h2 st' ha
              exact ihq y hd.2 _ m' hm1 E a w Q g' f' (h.mono (Env.le_refl E) fun p hp=>List.mem_append_right _ (hm2 p hp))
          · intro e; cases e
        · cases e
  | .block p=>by
    have ih:=execK_ok (f:=f) hT hP hR hK hH p
    intro c hd s l e E a w Q g fo h
    cases c <;> simp only [execK] at e <;> try cases e
    case block id b =>
      cases h1:execK X.T f H p b s with
      | none=>simp only [h1] at e; cases e
      | some m =>
        simp only [h1,Option.some.injEq] at e
        subst e
        refine wp_block (ih b hd s m h1 E a w _ g fo fun p hp E' a' w' hle g' f'=>?_)
        obtain ⟨xe,s'⟩:=p
        have hm:=blockL_mem (id:=id) hp
        cases xe with
        | n=>exact h (.n,s') hm E' a' w' hle g' f'
        | r=>exact h (.r,s') hm E' a' w' hle g' f'
        | x i =>
          simp only [exitOf,Exit.inBlock]
          simp only at hm
          cases hq:Nat.beq i id with
          | true =>
            rw [hq] at hm
            rw [if_pos (nbeq hq)]
            exact h (.n,s') hm E' a' w' hle g' f'
          | false =>
            rw [hq] at hm
            rw [if_neg (nbeq_false hq)]
            exact h (.x i,s') hm E' a' w' hle g' f'
def atsX (n:Nat):List At→List (SE.X×Sx)
  | []=>[]
  | p::l=>(p.x,(tmL n p.sl,p.S))::atsX n l
theorem atsX_mem {n:Nat}:∀ {l:List At} {p:At},p∈l→(p.x,(tmL n p.sl,p.S))∈atsX n l
  | q::l,p,h=>by
    simp only [atsX]
    rcases List.mem_cons.1 h with rfl | h
    · exact List.mem_cons_self
    · exact List.mem_cons_of_mem _ (atsX_mem h)
def hkA (L n:Nat) (named:List (Nat×Nat)) (b:At) (qs:List At):Hook:=fun s=>bif atCase L n named b (b.x,s) then some (atsX n qs) else none
theorem hkA_ok {L n:Nat} (hgl:GlOk X) (hZ:FzOk X zT) {named:List (Nat×Nat)} {b:At} {qs:List At} {D:Code} (h:PartOk X n D b.sl b.S qs):HookOk X own0 w0 D (hkA L n named b qs):=by
  intro s l e E a w Q g f hq
  unfold hkA at e
  simp only [cond_eq_ite] at e
  split at e
  · rename_i hb
    cases e
    obtain ⟨_,E',h1,h2,h3⟩:=atCase_ok hgl hZ hb g f
    exact h own0 w0 E' w a Q h2 h3 fun p hp E2 a2 w2 hle g2 f2=>hq _ (atsX_mem hp) E2 a2 w2 (Env.le_trans h1 hle) g2 f2
  · cases e
theorem partK (hp:PolFit pc) (hK:KAll (Xc pc) ks) {L L' n fuel:Nat} {k:Sk} {c D:Code} {sl:List (Nat×SV)} {S:SE.St} {ps qs:List At} {b:At} {named named':List (Nat×Nat)}
    (hD:PartOk (Xc pc) n D b.sl b.S qs) (hd:hkAt D k c) (e:atFits L n named ps (execK (TL ks jn nb) fuel (hkA L' n named' b qs) k c (tmL n sl,S))=true):PartOk (Xc pc) n c sl S ps:=by
  have hgl:GlOk (XL pc ks jn nb):=fun gg cs h=>glc_ok (pc:=pc) gg cs h
  have hZ:FzOk (XL pc ks jn nb) zT:=fun own0 w0 E st w g k svs h=>fzc hp own0 w0 E st w (g.tbl tblL.symm) k svs h
  refine PartOk.tbl (X:=XL pc ks jn nb) tblL.symm ?_
  intro own0 w0 E w a Q g f h
  cases hrun:execK (TL ks jn nb) fuel (hkA L' n named' b qs) k c (tmL n sl,S) with
  | none=>rw [hrun] at e; cases e
  | some l =>
    rw [hrun] at e
    refine execK_ok (X:=XL pc ks jn nb) tabL pkL rkL (kok (hK.tbl tblL) rfl own0 w0) (hkA_ok hgl hZ (hD.tbl tblL)) k c hd (tmL n sl,S) l hrun E a w Q g f fun o ho E' a' w' hle g' f'=>?_
    obtain ⟨p,hp,hx,E2,h1,h2,h3⟩:=anyAt_ok hgl hZ (allAt_ok e o ho) g' f'
    rw [← hx]
    exact h p hp E2 a' w' (Env.le_trans hle h1) h2 h3
theorem partsE (hp:PolFit pc) (hK:KAll (Xc pc) ks) {L n fuel:Nat} {c:Code} {sl:List (Nat×SV)} {S:SE.St} {ps:List At} {named:List (Nat×Nat)}
    (e:atFits L n named ps (execs (TL ks jn nb) fuel [c] (tmL n sl,S))=true):PartOk (Xc pc) n c sl S ps:=by
  have hgl:GlOk (XL pc ks jn nb):=fun gg cs h=>glc_ok (pc:=pc) gg cs h
  have hZ:FzOk (XL pc ks jn nb) zT:=fun own0 w0 E st w g k svs h=>fzc hp own0 w0 E st w (g.tbl tblL.symm) k svs h
  refine PartOk.tbl (X:=XL pc ks jn nb) tblL.symm ?_
  intro own0 w0 E w a Q g f h
  cases hrun:execs (TL ks jn nb) fuel [c] (tmL n sl,S) with
  | none=>rw [hrun] at e; cases e
  | some l =>
    rw [hrun] at e
    simp only [execs] at hrun
    cases h1:exec (TL ks jn nb) fuel c (tmL n sl,S) with
    | none=>simp only [h1] at hrun; cases hrun
    | some m =>
      simp only [h1] at hrun
      refine exec_ok (X:=XL pc ks jn nb) tabL pkL rkL (kok (hK.tbl tblL) rfl own0 w0) fuel c (tmL n sl,S) m h1 E a w Q g f fun o ho E' a' w' hle g' f'=>?_
      obtain ⟨xe,s'⟩:=o
      obtain ⟨k1,k2⟩:=thenL_mem hrun xe s' ho
      have hm:(xe,s')∈l:=by
        cases xe with
        | n =>
          obtain ⟨m',q1,q2⟩:=k1 rfl
          simp only [Option.some.injEq] at q1
          subst q1
          exact q2 _ List.mem_cons_self
        | x id=>exact k2 (by simp)
        | r=>exact k2 (by simp)
      obtain ⟨p,hp,hx,E2,q1,q2,q3⟩:=anyAt_ok hgl hZ (allAt_ok e _ hm) g' f'
      rw [← hx]
      exact h p hp E2 a' w' (Env.le_trans hle q1) q2 q3
end SE
end
section
namespace SE
open Go.RowKit
set_option maxHeartbeats 0
noncomputable def elseC:Code→Code
  | .cond _ _ b=>b
  | c=>c
noncomputable def thenC:Code→Code
  | .cond _ a _=>a
  | c=>c
noncomputable def unB:Code→Code
  | .block _ b=>b
  | c=>c
noncomputable def itD:Code:=elseC (tailC 1 (elseC (tailC 1 (elseC (tailC 1 (unB (tailC 1 (codeOf 50))))))))
def joinI (g:Nat):Bool:=Nat.beq g 68
def slD (l:Nat):List (Nat×SV):=[(0,.ptr 4 0),(1,N (Int.ofNat l)),(5,.ptr 100305 0)]
def itX:SE.St:={ byX with heap:=(100305,.cells 93 [U 0 100,.sl 25])::byX.heap,nid:=100400 }
def itB (l:Nat):At:=⟨.n,slD l,itX⟩
def sess2 (r:Nat):List SV:=[.tt,U 0 1000,U 0 1000,A r]++rep 32 byteCell++[.bool,U 0 4294967295,.int .u64 (.a 200273)]
def table2 (l:Nat):List SV :=
  match l with
  | 0=>[.cmp .ne 230 0,U 0 1000,U 0 1000]++sessCells 231 234 200270++sessCells 232 235 200271++sessCells 233 236 200272++[A 142,A 149]
  | 1=>[.cmp .ne 230 0,U 0 1000,U 0 1000]++sess2 234++sessCells 232 235 200271++sessCells 233 236 200272++[A 142,A 149]
  | 2=>[.cmp .ne 230 0,U 0 1000,U 0 1000]++sessCells 231 234 200270++sess2 235++sessCells 233 236 200272++[A 142,A 149]
  | _=>[.cmp .ne 230 0,U 0 1000,U 0 1000]++sessCells 231 234 200270++sessCells 232 235 200271++sess2 236++[A 142,A 149]
def msg2 (k:Int) (t:SV):List SV:=[N k,U 0 4294967295,A 200301,t,U 0 65535,A 200303,A 200304,.bool,U (-32768) 32767,U (-32768) 32767,U (-32768) 32767,U (-32768) 32767]
def zero2:List SV:=[N 0,N 0,N 0,N 0,N 0,N 0,N 0,.ff,N 0,N 0,N 0,N 0]
def slT (l:Nat) (e:SV):List (Nat×SV):=[(0,.ptr 4 0),(1,N (Int.ofNat l)),(6,.ptr 200306 0),(7,e)]
def takeN (l:Nat):At:=⟨.n,slT l (U 1 20),{ itX with heap:=(200306,.cells 169 zero2)::upd byX.heap 2 (.cells 145 (table2 0)),nid:=200400 }⟩
def takeK (l:Nat) (k:Int) (t:SV):At :=
  ⟨.n,slT l (N 0),{ itX with heap:=(200306,.cells 169 (msg2 k t))::upd byX.heap 2 (.cells 145 (table2 l)),tab:=(200301,0,3)::(200303,0,4)::(200304,bif decide (k=11) then 1 else 0,3)::(230+l,1,1)::byX.tab,nid:=200400 }⟩
def takeAll (l:Nat):List At:=takeN l::(([3,4,5,7,8,9,10,11].map fun k=>takeK l k (U 0 4))++[0,1,2,3,4].map fun t=>takeK l 6 (N t))
noncomputable def itR1 (l:Nat):Bool:=atFits 200000 70 [] (takeAll l) (execs (TL kItem joinT false) 60 [nthC 0 itD] (tmL 70 (slD l),itX))
def roleE (b:Nat) (en:List SV):List (Nat×List SV) :=
  match en with
  | [x,y,z]=>[(12,[x,A (b+231),A (b+234),A 234]),(12,[y,A (b+232),A (b+235),A 235]),(12,[z,A (b+233),A (b+236),A 236])]
  | _=>[]
def itS (k:Nat) (en:List SV):SE.St :=
  (fun S:SE.St=>{ heap:=mvH (lfK k) S.heap,tab:=oldT++mvT (lfK k) S.tab,sls:=mvS true (lfK k) S.sls,nid:=k*100000+400,facts:=roleE (k*100000) en++mvF (lfK k) S.facts }) (exX 4 en [])
def itE:List At:=[⟨.n,slS,itS 4 en0⟩,⟨.r,slS,itS 4 en0⟩]
def itF (l:Nat):List At:=[⟨.n,slS,itS 5 en0⟩,⟨.r,slS,itS 5 en0⟩,⟨.n,slS,itS 5 (enL l)⟩]
noncomputable def itR2 (l:Nat) (p:At):Bool:=atFits 400000 70 namedC itE (execs (TL kItem joinI false) 60 [tailC 1 itD] (tmL 70 p.sl,p.S))
def sk50:Sk:=.seq .run (.block (.seq .run (.cond .run (.seq .run (.cond .run (.seq .run (.cond .run .hook)))))))
def sl50 (l:Nat):List (Nat×SV):=[(2,.agg [A 298,.sl 25]),(1,N (Int.ofNat l)),(0,.ptr 4 0)]
def S50:SE.St:={ byX with tab:=(298,0,100)::byX.tab }
noncomputable def itR3 (l:Nat):Bool:=atFits 500000 70 namedC (itF l) (execK (TL kItem joinI false) 60 (hkA 100000 70 namedC (itB l) itE) sk50 (codeOf 50) (tmL 70 (sl50 l),S50))
end SE
end
section
namespace SE
open Go.RowKit
set_option maxHeartbeats 0
variable {X:Px} {own0:Nat→Prop} {w0 w:World} {E:Env} {st:SE.St}
def anyLen:Int:=9223372036854775807
def kKeyB (args:List SV) (st:SE.St):Option Out :=
  match args with
  | [b]=>bif lenR st b 0 anyLen then some [(.sl st.nid,newB' st 1 64)] else none
  | _=>none
def kCloneB (args:List SV) (st:SE.St):Option Out :=
  match args with
  | [b]=>bif lenR st b 1 64 then some [(.sl st.nid,newB' st 1 64)] else none
  | _=>none
def modO (st:SE.St):Nat→Out
  | 0=>[]
  | n+1=>(N (Int.ofNat n),st)::modO st n
def kMod (args:List SV) (st:SE.St):Option Out :=
  match args with
  | [x, m]=>match cstN st m with
    | some k=>bif isI x&&(isI m&&(Nat.ble 1 k&&Nat.ble k 100000)) then
        (bif Nat.ble k 3 then some (modO st k) else fN (k - 1) fun h=>some [(A st.nid,atom st 0 (Int.ofNat h))]) else none
    | none=>none
  | _=>none
abbrev kFit:List (Nat×(List SV→SE.St→Option Out)):=[(26,kKeyB),(27,kMod)]
def fitA:List SV:=[I64,I64,I64,I64,I64,.sl 1,.sl 2,.sl 3,.sl 4]++rep 47 I64
def fitS0:SE.St:=⟨[],[],[(1,.bytes (.r 0 anyLen)),(2,.bytes (.r 0 anyLen)),(3,.bytes (.r 0 anyLen)),(4,.bytes (.r 0 anyLen))],10,[]⟩
def fitR:List (Int×Int):=[(1,1),(0,14),(0,14),(0,14),(0,0)]++List.replicate 20 (0,15)++List.replicate 5 (0,31)++[(0,4),(0,4),(0,4),(1,1000),(1,1000),(1,1000),(1,1000),(1,1000),(0,1000),(1,3),(1,3),(0,0),(0,1000),(0,1000),(0,1000),(1,1000),(0,65535)]
def inRg (st:SE.St):List SV→List (Int×Int)→Bool
  | [],[]=>true
  | v::l,(a,b)::m=>isIn st v a b&&inRg st l m
  | _,_=>false
def hasC (l:List SV) (n:Int):Bool:=match l with
  | []=>false
  | .int .i64 (.r a b)::l=>(decide (a=n)&&decide (b=n))||hasC l n
  | _::l=>hasC l n
def fitO (o:SV×SE.St):Bool :=
  match o.1 with
  | .agg (a::b::c::d::e::k1::k2::k3::k4::l) =>
    (fun q=>(isIn o.2 a 0 0&&(isIn o.2 b 1 3&&(isIn o.2 c 1 3&&(isIn o.2 d 1 3&&isIn o.2 e 4 4))))&&(hasC q 0&&(hasC q 1&&(hasC q 2&&(hasC q 3&&hasC q 4))))) [a,b,c,d,e] &&
      (lenR o.2 k1 1 64&&(lenR o.2 k2 1 64&&(lenR o.2 k3 1 64&&(lenR o.2 k4 1 64&&inRg o.2 l fitR))))
  | _=>false
noncomputable def fitRun:Bool:=runO fitO (run (Xw (kL kFit)).T 60 16 [.agg fitA] fitS0)
abbrev kNew:List (Nat×(List SV→SE.St→Option Out)):=[(43,kCloneB)]
def pol9:List (Nat×Int×Int):=(List.range 47).map fun i=>(109+i,(fitR.getD i (0,0)).1,(fitR.getD i (0,0)).2)
def newS:SE.St:=⟨[],[(100,0,0),(101,1,3),(102,1,3),(103,1,3),(104,4,4)]++pol9,[(21,.bytes (.r 1 64)),(22,.bytes (.r 1 64)),(23,.bytes (.r 1 64)),(24,.bytes (.r 1 64))],300,[]⟩
noncomputable def chkC:Nat→Code
  | 0=>unB (nthC 0 (tailC 1 (codeOf 41)))
  | k+1=>elseC (tailC 1 (chkC k))
def chkS (k:Nat):SE.St:={ newS with heap:=[(310,.cells 28 polCells)],nid:=10000*(k+1) }
def chkB (k:Nat):At:=⟨.n,[(1,.ptr 310 0),(2,N 0)],chkS k⟩
def chkQ:List At:=[⟨.r,[(2,U 1 50)],chkS 20⟩,⟨.n,[(2,N 0)],chkS 20⟩]
noncomputable def chkR (k:Nat):Bool:=atFits 210000 118 [] chkQ (execK (TL kNew (fun _=>false) false) 60 (hkA (10000*(k+2)) 118 [] (chkB (k+1)) chkQ) (.seq .run (.cond .run .hook)) (chkC k) (tmL 118 (chkB k).sl,(chkB k).S))
def chkE:SE.St:=⟨[],[],[],310000,[]⟩
def chkF:List At:=[⟨.r,[(2,U 1 50)],chkE⟩,⟨.r,[(2,N 0)],chkE⟩]
def chkS0:SE.St:={ newS with nid:=310 }
noncomputable def chkTop:Bool:=atFits 310000 118 [] chkF (execK (TL kNew (fun _=>false) false) 60 (hkA 10000 118 [] (chkB 0) chkQ) (.seq .run (.seq (.block .hook) .run)) (codeOf 41) (tmL 118 [(0,.agg polCells)],chkS0))
def chkM:Sm:=⟨chkS0,[.agg polCells],[(U 1 50,chkE),(N 0,chkE)]⟩
def kChk:List SV→SE.St→Option Out:=kSm chkM [] true
abbrev kNew2:List (Nat×(List SV→SE.St→Option Out)):=[(41,kChk),(43,kCloneB)]
def lfW (id:Nat):Rn:=bif Nat.ble 100 id&&Nat.ble id 155 then .nm id else fN (1000000+id) fun n=>.nm n
def rawTab:List (Nat×Int×Int) :=
  [(200,4,4),(201,-1,-1),(202,0,65535),(210,0,0),(211,0,0),(212,0,0),(214,0,4),(215,1,1)]++((List.range 8).map fun i=>(216+i,0,0))++[(230,0,0),(231,0,0),(232,0,0),(233,0,0),(234,0,0),(235,0,0),(236,0,0)]
def rawHeap:List (Nat×Blk):=[(1,.cells 108 coreCells),(2,.cells 145 tableCells),(3,.cells 158 [.nils,A 148,C64])]
def rawSls:List (Nat×SlI):=[(21,.bytes (.r 1 64)),(22,.bytes (.r 1 64)),(23,.bytes (.r 1 64)),(24,.bytes (.r 1 64))]
def deadM0:SE.St:=⟨[(1000310,.cells 71 [.nilp,U 0 50,.nilp,.nilp,.nilp])],[],[],1000400,[]⟩
def strmC:List (Nat×Blk):=[(1000311,.cells 124 [.nils]),(1000312,.cells 124 [.nils]),(1000313,.cells 124 [.nils])]
def aliveS:SE.St where
  heap:=(1000310,.cells 71 [.ptr 1000001 0,N 0,.ptr 1000311 0,.ptr 1000312 0,.ptr 1000313 0])::(strmC++mvH lfW rawHeap)
  tab:=mvT lfW (newS.tab++rawTab)
  sls:=mvS true lfW rawSls
  nid:=1000400
  facts:=[]
def newM:Sm:=⟨newS,[.agg polCells],[(.ptr 1000310 0,deadM0),(.ptr 1000310 0,aliveS)]⟩
noncomputable def newR:Bool:=runFits 1000000 namedC newM.outs (run (TL kNew2 (fun _=>false) false) 60 17 newM.args newM.S)
end SE
end
section
namespace SE
open Go.RowKit
set_option maxHeartbeats 0
variable {X:Px} {own0:Nat→Prop} {w0 w w':World} {E:Env} {st:SE.St} {pc:Array Value}
theorem k_keyB (hP:X.P=Tryz.prog):KOne X 26 kKeyB:=by
  intro own0 w0 args st out h E w vals g hr
  unfold kKeyB at h
  split at h
  · rename_i b
    obtain ⟨x,e,hx⟩:=RL1 hr
    rw [arr_of e]
    simp only [cond_eq_ite] at h
    split at h
    · rename_i hc
      cases h
      obtain ⟨b1,l1,c1,rfl,q1,q2,q3,q4,q5⟩:=lenR_ok g hc hx
      obtain ⟨l,hl,hrd⟩:=reads_of q4 q5
      rw [hP]
      refine (key_any w.heap.size b1 l1 c1 l w hrd (Nat.le_refl _) (by omega)).mono fun e w' he=>?_
      obtain ⟨v,rfl,hb,hn⟩:=he
      obtain ⟨E',hle,hR,hG⟩:=g.newRow (g.below hb) hn
      exact ⟨_,List.mem_cons_self,E',_,hle,rfl,hR,hG⟩
    · cases h
  · cases h
theorem k_cloneB (hP:X.P=Tryz.prog):KOne X 43 kCloneB:=by
  intro own0 w0 args st out h E w vals g hr
  unfold kCloneB at h
  split at h
  · rename_i b
    obtain ⟨x,e,hx⟩:=RL1 hr
    rw [arr_of e]
    simp only [cond_eq_ite] at h
    split at h
    · rename_i hc
      cases h
      obtain ⟨b1,l1,c1,rfl,q1,q2,q3,q4,q5⟩:=lenR_ok g hc hx
      obtain ⟨l,hl,hrd⟩:=reads_of q4 q5
      rw [hP]
      refine (clone_any w.heap.size b1 l1 c1 l w hrd (Nat.le_refl _) (by omega) (by omega) (by omega)).mono fun e w' he=>?_
      obtain ⟨v,rfl,hb,hn⟩:=he
      obtain ⟨E',hle,hR,hG⟩:=g.newRow (g.below hb) hn
      exact ⟨_,List.mem_cons_self,E',_,hle,rfl,hR,hG⟩
    · cases h
  · cases h
theorem modO_mem (st:SE.St):∀ (n:Nat) (i:Nat),i<n→(N (Int.ofNat i),st)∈modO st n
  | 0,i,h=>absurd h (Nat.not_lt_zero _)
  | n+1,i,h=>by
    simp only [modO]
    by_cases e:i=n
    · subst e; exact List.mem_cons_self
    · exact List.mem_cons_of_mem _ (modO_mem st n i (by omega))
theorem k_mod (hP:X.P=Tryz.prog):KOne X 27 kMod:=by
  intro own0 w0 args st out h E w vals g hr
  unfold kMod at h
  split at h
  · rename_i x m
    obtain ⟨u,v,e,hu,hv⟩:=RL2 hr
    rw [arr_of e]
    split at h
    · rename_i k hk
      obtain ⟨kk,rfl⟩:=cstN_ok g hk hv
      simp only [cond_eq_ite,Bool.and_eq_true,fN_eq] at h
      split at h
      · rename_i hc
        obtain ⟨h1,h2,h3,h4⟩:=hc
        have h3:=Nat.le_of_ble_eq_true h3
        have h4:=Nat.le_of_ble_eq_true h4
        obtain ⟨a,rfl⟩:=isI_ok h1 hu
        obtain ⟨b,hb⟩:=isI_ok h2 hv
        simp only [i64,Value.int.injEq] at hb
        obtain ⟨rfl,_⟩:=hb
        rw [hP]
        refine (mod_any a k w (by omega)).mono fun e w' he=>?_
        obtain ⟨rfl,z,rfl,z1,z2⟩:=he
        split at h
        · cases h
          obtain ⟨n,rfl⟩:=Int.eq_ofNat_of_zero_le z1
          exact ⟨_,modO_mem st k n (by omega),E,_,Env.le_refl E,rfl,RN E n,g⟩
        · cases h
          have hz:z≤Int.ofNat (k - 1):=by simp only [Int.ofNat_eq_natCast]; omega
          exact ⟨_,List.mem_cons_self,E.upd st.nid (.z z),_,Env.le_upd (x:=EV.z z) g.nid_none,rfl,by simp [R,SIok,A,Env.upd,i64],g.atom z1 hz⟩
      · cases h
    · cases h
  · cases h
theorem kFit_ok (hP:X.P=Tryz.prog):KAll X kFit:=⟨k_keyB hP,k_mod hP,trivial⟩
theorem kNew_ok (hP:X.P=Tryz.prog):KAll X kNew:=⟨k_cloneB hP,trivial⟩
theorem chk_0:chkR 0=true:=by decide +kernel
theorem chk_1:chkR 1=true:=by decide +kernel
theorem chk_2:chkR 2=true:=by decide +kernel
theorem chk_3:chkR 3=true:=by decide +kernel
theorem chk_4:chkR 4=true:=by decide +kernel
theorem chk_5:chkR 5=true:=by decide +kernel
theorem chk_6:chkR 6=true:=by decide +kernel
theorem chk_7:chkR 7=true:=by decide +kernel
theorem chk_8:chkR 8=true:=by decide +kernel
theorem chk_9:chkR 9=true:=by decide +kernel
theorem chk_10:chkR 10=true:=by decide +kernel
noncomputable def chkZ:Bool:=atFits 210000 118 [] chkQ (exec (TL kNew (fun _=>false) false) 60 (chkC 11) (tmL 118 (chkB 11).sl,(chkB 11).S))
theorem chk_11:chkZ=true:=by decide +kernel
theorem chk_top:chkTop=true:=by decide +kernel
noncomputable def condO':Code→Operand
  | .cond c _ _=>c
  | _=>.tmp 0
theorem chkC_0:chkC 0=.seq (nthC 0 (chkC 0)) (.cond (condO' (tailC 1 (chkC 0))) (thenC (tailC 1 (chkC 0))) (chkC 1)):=by kernel_rfl
theorem chkC_1:chkC 1=.seq (nthC 0 (chkC 1)) (.cond (condO' (tailC 1 (chkC 1))) (thenC (tailC 1 (chkC 1))) (chkC 2)):=by kernel_rfl
theorem chkC_2:chkC 2=.seq (nthC 0 (chkC 2)) (.cond (condO' (tailC 1 (chkC 2))) (thenC (tailC 1 (chkC 2))) (chkC 3)):=by kernel_rfl
theorem chkC_3:chkC 3=.seq (nthC 0 (chkC 3)) (.cond (condO' (tailC 1 (chkC 3))) (thenC (tailC 1 (chkC 3))) (chkC 4)):=by kernel_rfl
theorem chkC_4:chkC 4=.seq (nthC 0 (chkC 4)) (.cond (condO' (tailC 1 (chkC 4))) (thenC (tailC 1 (chkC 4))) (chkC 5)):=by kernel_rfl
theorem chkC_5:chkC 5=.seq (nthC 0 (chkC 5)) (.cond (condO' (tailC 1 (chkC 5))) (thenC (tailC 1 (chkC 5))) (chkC 6)):=by kernel_rfl
theorem chkC_6:chkC 6=.seq (nthC 0 (chkC 6)) (.cond (condO' (tailC 1 (chkC 6))) (thenC (tailC 1 (chkC 6))) (chkC 7)):=by kernel_rfl
theorem chkC_7:chkC 7=.seq (nthC 0 (chkC 7)) (.cond (condO' (tailC 1 (chkC 7))) (thenC (tailC 1 (chkC 7))) (chkC 8)):=by kernel_rfl
theorem chkC_8:chkC 8=.seq (nthC 0 (chkC 8)) (.cond (condO' (tailC 1 (chkC 8))) (thenC (tailC 1 (chkC 8))) (chkC 9)):=by kernel_rfl
theorem chkC_9:chkC 9=.seq (nthC 0 (chkC 9)) (.cond (condO' (tailC 1 (chkC 9))) (thenC (tailC 1 (chkC 9))) (chkC 10)):=by kernel_rfl
theorem chkC_10:chkC 10=.seq (nthC 0 (chkC 10)) (.cond (condO' (tailC 1 (chkC 10))) (thenC (tailC 1 (chkC 10))) (chkC 11)):=by kernel_rfl
theorem hk_of {c a x y D:Code} {o:Operand} (h:c=.seq a (.cond o x y)) (hD:y=D):hkAt D (.seq .run (.cond .run .hook)) c:=by
  subst h
  exact ⟨trivial,trivial,hD⟩
abbrev ChkP (pc:Array Value) (k:Nat):Prop:=PartOk (Xc pc) 118 (chkC k) (chkB k).sl (chkB k).S chkQ
theorem chk_step (hp:PolFit pc) {k:Nat} {a x:Code} {o:Operand} (hc:chkC k=.seq a (.cond o x (chkC (k+1)))) (e:chkR k=true) (h:ChkP pc (k+1)):ChkP pc k :=
  partK hp (kNew_ok rfl) (b:=chkB (k+1)) h (hk_of hc rfl) e
theorem chk_last (hp:PolFit pc):ChkP pc 11:=partL hp (kNew_ok rfl) chk_11
theorem chk_all (hp:PolFit pc):ChkP pc 0 :=
  chk_step hp chkC_0 chk_0 <| chk_step hp chkC_1 chk_1 <| chk_step hp chkC_2 chk_2 <| chk_step hp chkC_3 chk_3 <| chk_step hp chkC_4 chk_4 <| chk_step hp chkC_5 chk_5 <|
  chk_step hp chkC_6 chk_6 <| chk_step hp chkC_7 chk_7 <| chk_step hp chkC_8 chk_8 <| chk_step hp chkC_9 chk_9 <| chk_step hp chkC_10 chk_10 <| chk_last hp
theorem code41:codeOf 41=.seq (nthC 0 (codeOf 41)) (.seq (.block 0 (chkC 0)) (tailC 2 (codeOf 41))):=by kernel_rfl
theorem body41:Tryz.f41.body=some (codeOf 41):=by kernel_rfl
theorem chk_part (hp:PolFit pc):PartOk (Xc pc) 118 (codeOf 41) [(0,.agg polCells)] chkS0 chkF :=
  partK hp (kNew_ok rfl) (b:=chkB 0) (chk_all hp) (by rw [code41]; exact ⟨trivial,rfl,trivial⟩) chk_top
theorem sm_partR {X:Px} (hX:X.P=Tryz.prog) {gi t:Nat} {fn:Func} {c:Code} {args:List SV} {S:SE.St} {ps:List At} {outs:Out} (hf:Tryz.prog.funcs[gi]?=some fn) (hb:fn.body=some c) (hr:fn.results=#[.tmp t]) (hn:nodupO outs=true)
    (h:∀ own0 w0 E w (a:Act) (Q:Exit→Act→World→Prop),G X own0 w0 E S w→FOk E (fill2 0 args (mkT fn.ntmps 10 1 0)) a→(∀ p∈ps,∀ E' (a':Act) w',E.le E'→G X own0 w0 E' p.S w'→FOk E' (tmL fn.ntmps p.sl) a'→Q (exitOf p.x) a' w')→c.wp X.P Q a w)
    (ho:∀ p∈ps,(p.x=.n∨p.x=.r)∧((tmL fn.ntmps p.sl).get t,p.S)∈outs):SmOk X gi ⟨S,args,outs⟩:=by
  refine ⟨nodupO_ok hn,fun own0 w0 E w vals g hrl=>?_⟩
  refine calls_of_wp (by rw [hX]; exact hf) hb (h own0 w0 E w _ _ g (FOk.start hrl fn.ntmps) fun p hp E' a' w' hle g' f'=>?_)
  obtain ⟨hx,hm⟩:=ho p hp
  have hfin:∃ v,(results fn a'.tmps).run X.P w'=.ok v w'∧Outs X own0 w0 E outs (.returned v) w' :=
    ⟨_,results_tmp hr _ _ _,⟨_,hm,E',_,hle,rfl,f'.slot t,g'⟩⟩
  rcases hx with hx | hx <;> rw [hx]
  · exact ⟨f'.defers,hfin⟩
  · exact ⟨f'.defers,hfin⟩
theorem tm41:tmL 118 [(0,.agg polCells)]=fill2 0 [.agg polCells] (mkT 118 10 1 0):=by
  simp only [tmL,setK_eq,fill2]
theorem chk_n:nodupO chkM.outs=true:=by decide +kernel
theorem chk_slots:(chkF.map fun p=>(tmL 118 p.sl).get 2)=[U 1 50,N 0]:=by kernel_rfl
theorem chk_sm (hp:PolFit pc):SmOk (Xc pc) 41 chkM:=by
  have hs:=chk_slots
  simp only [chkF,List.map_cons,List.map_nil,List.cons.injEq,and_true] at hs
  refine sm_partR (fn:=Tryz.f41) (t:=2) (ps:=chkF) rfl Tryz.func41 body41 rfl chk_n (fun own0 w0 E w a Q g f h=>chk_part hp own0 w0 E w a Q g (by rw [tm41]; exact f) h) fun p hp'=>?_
  simp only [chkF,List.mem_cons,List.not_mem_nil,or_false] at hp'
  rcases hp' with rfl | rfl
  · refine ⟨.inr rfl,?_⟩
    have:=hs.1
    show (((tmL 118 [(2,U 1 50)]).get 2,chkE):SV×SE.St)∈_
    rw [this]
    exact List.mem_cons_self
  · refine ⟨.inr rfl,?_⟩
    have:=hs.2
    show (((tmL 118 [(2,N 0)]).get 2,chkE):SV×SE.St)∈_
    rw [this]
    exact List.mem_cons_of_mem _ List.mem_cons_self
theorem kNew2_ok (hp:PolFit pc):KAll (Xc pc) kNew2:=⟨kSmL hp (chk_sm hp) [] true,k_cloneB rfl,trivial⟩
theorem new_r:newR=true:=by decide +kernel
theorem new_sm (hp:PolFit pc):SmOk (Xc pc) 17 newM:=smL (ks:=kNew2) (jn:=fun _=>false) (nb:=false) (L:=1000000) (fuel:=60) (named:=namedC) hp (kNew2_ok hp) new_r
theorem fit_r:fitRun=true:=by decide +kernel
end SE
end
end Go.Proofs.YtdgejnakakjgfaaGreatDoor
