/- What comes of a link's item: the contracts that it uses, its states. Parts of a function's code: runs cut, parts put together. A tick of a scene, in four parts: the states between them. What is told: states behind a call of the core; samples, danger: the runs. Code with a part whose run is given: the run round it. An item of a scene: its parts, the states between them. Policies that are made ones that may be; new machines: contracts, states. Policies checked, made ones that may be, new machines: contracts, runs. Policies that are made ones that may be: what Fit answers; the state ahead of New. What a state looks at; a state under another beginning; use of a summary, with what it leaves alone. The plain law of streams: the items of bytes and what is left; no program in sight. -/
import Derived.Test.YtdgejnakakjgfaaGreatDoorR17
import Derived.Test.YtdgejnakakjgfaaGreatDoorR15
import Derived.Test.YtdgejnakakjgfaaGreatDoorR10
import Derived.Test.YtdgejnakakjgfaaGreatDoorR07
import Derived.KernelRfl
set_option linter.unusedVariables false
set_option linter.unusedSimpArgs false
set_option maxRecDepth 100000
namespace Go.Proofs.YtdgejnakakjgfaaGreatDoor
section
namespace SE
open Go.RowKit
set_option maxHeartbeats 0
def selL (m:Nat→Sm) (args:List SV) (st:SE.St):Option (List SV→SE.St→Option Out) :=
 match args with
 | _::s::_=>match cstN st s with
  | some n=>bif Nat.ble 1 n&&Nat.ble n 3 then some (fN n fun n=>kSm (m n) namedC true) else none
  | none=>none
 | _=>none
def selO (args:List SV) (st:SE.St):Option (List SV→SE.St→Option Out) :=
 match args with
 | [_,_,.agg [_,_,_,t,_,_,_,_,_,_,_,_]]=>match cstN st t with
  | some 0=>selL offer0M args st
  | some 1=>selL offer1M args st
  | some 2=>selL offer2M args st
  | some 3=>selL offer3M args st
  | some 4=>selL offer4M args st
  | _=>none
 | _=>none
def selC (args:List SV) (st:SE.St):Option (List SV→SE.St→Option Out) :=
 match args with
 | [_,_,.agg [k,_,_,_,_,_,_,_,_,_,_,_]]=>match cstN st k with
  | some 10=>selL modeM args st
  | some 11=>selL pointM args st
  | _=>none
 | _=>none
def augF (st:SE.St):List (Nat×List SV)→List (Nat×List SV)
 | []=>[]
 | (k,[g,i,r])::l=>bif Nat.beq k 3&&excl st g 0 then (4,[i,r])::augF st l else augF st l
 | _::l=>augF st l
def aug (st:SE.St):SE.St:={ st with facts:=augF st st.facts++st.facts }
def kOf' (sel:List SV→SE.St→Option (List SV→SE.St→Option Out)) (args:List SV) (st:SE.St):Option Out :=
 match aug st with
 | st=>(match sel args st with | some kf=>kf args st | none=>none)
def takeT:List (Nat×Int×Int):=[(299,0,32),(142,1,1000),(149,1,3),(230,0,1),(231,0,1),(232,0,1),(233,0,1),(234,0,3),(235,0,3),(236,0,3)]
def takeS:SE.St:=⟨[(2,.cells 145 tableCells)],takeT,[(25,.bytes (.a 299))],310,[]⟩
def takeA (l:Nat):List SV:=[.ptr 2 0,N (Int.ofNat l),.sl 25]
def sessOn (r:Nat):List SV:=[.tt,U 0 1000,U 0 1000,A r]++rep 32 byteCell++[.bool,U 0 4294967295,.int .u64 (.a 1270)]
def tableOn (l:Nat):List SV :=
 match l with
 | 1=>[.cmp .ne 230 0,U 0 1000,U 0 1000]++sessOn 234++sessCells 232 235 271++sessCells 233 236 272++[A 142,A 149]
 | 2=>[.cmp .ne 230 0,U 0 1000,U 0 1000]++sessCells 231 234 270++sessOn 235++sessCells 233 236 272++[A 142,A 149]
 | _=>[.cmp .ne 230 0,U 0 1000,U 0 1000]++sessCells 231 234 270++sessCells 232 235 271++sessOn 236++[A 142,A 149]
def takeV (k:Int) (t:SV):SV:=.tup [.agg [N k,U 0 4294967295,A 1301,t,U 0 65535,A 1303,A 1304,.bool,U (-32768) 32767,U (-32768) 32767,U (-32768) 32767,U (-32768) 32767],N 0]
def takeO1 (l:Nat) (k:Int) (t:SV):SV×SE.St :=
 (takeV k t,⟨[(2,.cells 145 (tableOn l))],(230+l,1,1)::(1301,0,3)::(1303,0,4)::(1304,bif decide (k=11) then 1 else 0,3)::del takeT (230+l),[],1400,[]⟩)
def takeO (l:Nat):Out :=
 (.tup [zeroMsg,U 1 20],⟨[(2,.cells 145 tableCells)],takeT,[],1400,[]⟩)::(([3,4,5,7,8,9,10,11].map fun k=>takeO1 l k (U 0 4))++[0,1,2,3,4].map fun t=>takeO1 l 6 (N t))
def takeM (l:Nat):Sm:=⟨takeS,takeA l,takeO l⟩
noncomputable def takeR (l:Nat):Bool:=runFits6 1000 [] (takeO l) (run (TL kScene2 joinT false) 60 71 (takeA l) takeS)
def selN (m:Nat→Sm) (args:List SV) (st:SE.St):Option (List SV→SE.St→Option Out) :=
 match args with
 | _::s::_=>match cstN st s with
  | some n=>bif Nat.ble 1 n&&Nat.ble n 3 then some (fN n fun n=>kSm (m n) [] true) else none
  | none=>none
 | _=>none
def kTake (args:List SV) (st:SE.St):Option Out:=match selN takeM args st with | some kf=>kf args st | none=>none
noncomputable abbrev kItem:List (Nat×(List SV→SE.St→Option Out)) :=
 (67,kOf' (selL rejectM))::(69,kOf' (selL helloM))::(70,kOf' (selL proveM))::(111,kOf' (selL beatM))::(112,kOf' (selL byeM))::(113,kOf' (selL askM))::(114,kOf' selO) ::
  (71,kTake)::(115,kOf' (selL acceptM))::(116,kOf' (selL denyM))::(117,kOf' (selL releaseM))::(118,kOf' selC)::kScene2
def oldT:List (Nat×Int×Int):=[(231,0,1),(232,0,1),(233,0,1),(234,0,3),(235,0,3),(236,0,3),(237,0,1),(238,0,1),(239,0,1)]
end SE
end
section
namespace SE
variable {X Y:Px} {own0:Nat→Prop} {w0 w:World} {E:Env} {st S:SE.St} {pc:Array Value} {ks:List (Nat×(List SV→SE.St→Option Out))} {jn:Nat→Bool} {nb:Bool} {tm:TT} {a:Act}
structure At where
 x:SE.X
 sl:List (Nat×SV)
 S:SE.St
def sndL:List (Nat×SV)→List SV
 | []=>[]
 | (_,v)::l=>v::sndL l
def getsL (tm:TT):List (Nat×SV)→List SV
 | []=>[]
 | (i,_)::l=>tm.get i::getsL tm l
def tmL (n:Nat):List (Nat×SV)→TT
 | []=>mkT n 10 1 0
 | (i,v)::l=>setK (tmL n l) i v fun t=>t
def TT.same:TT→TT→Bool
 | .lf,.lf=>true
 | .nd _ l r,.nd _ m s=>l.same m&&r.same s
 | _,_=>false
def eqX:SE.X→SE.X→Bool
 | .n,.n=>true
 | .r,.r=>true
 | .x i,.x j=>Nat.beq i j
 | _,_=>false
theorem eqX_ok {x y:SE.X} (h:eqX x y=true):x=y:=by
 cases x <;> cases y <;> simp [eqX] at h
 ·rfl
 ·rw [h]
 ·rfl
theorem TT.same_has:∀ {t u:TT},t.same u=true→∀ i,t.has i=u.has i
 | .lf,.lf,_,i=>rfl
 | .lf,.nd ..,h,i=>by simp [TT.same] at h
 | .nd ..,.lf,h,i=>by simp [TT.same] at h
 | .nd v l r,.nd v2 m s,h,i=>by
  simp only [TT.same,Bool.and_eq_true] at h
  simp only [TT.has,TT.same_has h.1,TT.same_has h.2]
def atCase (L n:Nat) (named:List (Nat×Nat)) (p:At) (o:SE.X×Sx):Bool :=
 eqX p.x o.1&&((mkT n 10 1 0).same o.2.1&&isCase6 L named (.tup (sndL p.sl),p.S) (.tup (getsL o.2.1 p.sl),o.2.2))
def anyAt (L n:Nat) (named:List (Nat×Nat)) (o:SE.X×Sx):List At→Bool
 | []=>false
 | p::l=>bif atCase L n named p o then true else anyAt L n named o l
def allAt (L n:Nat) (named:List (Nat×Nat)) (ps:List At):List (SE.X×Sx)→Bool
 | []=>true
 | o::l=>anyAt L n named o ps&&allAt L n named ps l
def atFits (L n:Nat) (named:List (Nat×Nat)) (ps:List At):Option (List (SE.X×Sx))→Bool
 | some l=>allAt L n named ps l
 | none=>false
theorem getsL_ok (f:FOk E tm a):∀ l:List (Nat×SV),∃ vs:List Value,RL E (getsL tm l) vs∧vs=l.map fun p=>a.tmps.getD p.1 undef
 | []=>⟨[],by simp [getsL,RL],rfl⟩
 | (i,v)::l=>by
  obtain ⟨vs,h1,h2⟩:=getsL_ok f l
  exact ⟨_::vs,RL_cons.2 ⟨f.slot i,h1⟩,by rw [h2]; rfl⟩
theorem tmL_ok (n:Nat) (hs:∀ i,(mkT n 10 1 0).has i=true→i<a.tmps.size) (hd:a.defers=[]):∀ l:List (Nat×SV),RL E (sndL l) (l.map fun p=>a.tmps.getD p.1 undef)→FOk E (tmL n l) a
 | [],_=>⟨fun i=>by simp only [tmL]; rw [TT.get_mkT]; trivial,hs,hd⟩
 | (i,v)::l,h=>by
  simp only [sndL,List.map_cons] at h
  obtain ⟨h1,h2⟩:=RL_cons.1 h
  simp only [tmL,setK_eq]
  exact (tmL_ok n hs hd l h2).refine i h1
theorem atCase_ok {L n:Nat} (hgl:GlOk X) (hZ:FzOk X zT) {named:List (Nat×Nat)} {p:At} {o:SE.X×Sx} (h:atCase L n named p o=true) (g:G X own0 w0 E o.2.2 w) (f:FOk E o.2.1 a) :
  p.x=o.1∧∃ E',E.le E'∧G X own0 w0 E' p.S w∧FOk E' (tmL n p.sl) a:=by
 simp only [atCase,Bool.and_eq_true] at h
 obtain ⟨h1,h2,h3⟩:=h
 refine ⟨eqX_ok h1,?_⟩
 obtain ⟨vs,k1,k2⟩:=getsL_ok f p.sl
 obtain ⟨E',q1,q2,q3⟩:=isCase6_ok hgl hZ h3 (x:=.tuple vs.toArray) (by simp only [R]; exact ⟨_,rfl,by simpa using k1⟩) g
 refine ⟨E',q1,q3,?_⟩
 simp only [R] at q2
 obtain ⟨us,e,q2⟩:=q2
 have:us=vs.toArray:=by simpa using e.symm
 subst this
 refine tmL_ok n (fun i hi=>f.has i (by rw [← TT.same_has h2]; exact hi)) f.defers _ ?_
 rw [← k2]
 simpa using q2
theorem anyAt_ok {L n:Nat} (hgl:GlOk X) (hZ:FzOk X zT) {named:List (Nat×Nat)} {o:SE.X×Sx}:∀ {ps:List At},anyAt L n named o ps=true→G X own0 w0 E o.2.2 w→FOk E o.2.1 a →
  ∃ p∈ps,p.x=o.1∧∃ E',E.le E'∧G X own0 w0 E' p.S w∧FOk E' (tmL n p.sl) a
 | p::l,h,g,f=>by
  simp only [anyAt] at h
  cases hb:atCase L n named p o with
  | true=>exact ⟨p,List.mem_cons_self,atCase_ok hgl hZ hb g f⟩
  | false =>
   rw [hb] at h
   obtain ⟨q,hq,r⟩:=anyAt_ok hgl hZ h g f
   exact ⟨q,List.mem_cons_of_mem _ hq,r⟩
theorem allAt_ok {L n:Nat} {named:List (Nat×Nat)} {ps:List At}:∀ {l:List (SE.X×Sx)},allAt L n named ps l=true→∀ o∈l,anyAt L n named o ps=true
 | x::l,h,o,ho=>by
  simp only [allAt,Bool.and_eq_true] at h
  rcases List.mem_cons.1 ho with rfl | ho
  ·exact h.1
  ·exact allAt_ok h.2 o ho
def PartOk (X:Px) (n:Nat) (c:Code) (sl:List (Nat×SV)) (S:SE.St) (ps:List At):Prop :=
 ∀ own0 w0 E w (a:Act) (Q:Exit→Act→World→Prop),G X own0 w0 E S w→FOk E (tmL n sl) a →
  (∀ p∈ps,∀ E' (a':Act) w',E.le E'→G X own0 w0 E' p.S w'→FOk E' (tmL n p.sl) a'→Q (exitOf p.x) a' w')→c.wp X.P Q a w
theorem part_run (hT:TabOk X) (hP:PkOk X) (hR:RkOk X) (hK:∀ own0 w0,KOk X own0 w0) (hgl:GlOk X) (hZ:FzOk X zT) {L n fuel:Nat} {c:Code} {sl:List (Nat×SV)} {S:SE.St} {ps:List At} {named:List (Nat×Nat)}
  (e:atFits L n named ps (exec X.T fuel c (tmL n sl,S))=true):PartOk X n c sl S ps:=by
 intro own0 w0 E w a Q g f h
 cases hrun:exec X.T fuel c (tmL n sl,S) with
 | none=>rw [hrun] at e; cases e
 | some l =>
  rw [hrun] at e
  refine exec_ok hT hP hR (hK own0 w0) fuel c (tmL n sl,S) l hrun E a w Q g f fun o ho E' a' w' hle g' f'=>?_
  obtain ⟨p,hp,hx,E2,h1,h2,h3⟩:=anyAt_ok hgl hZ (allAt_ok e o ho) g' f'
  rw [← hx]
  exact h p hp E2 a' w' (Env.le_trans hle h1) h2 h3
theorem PartOk.seq {n:Nat} {c d:Code} {sl:List (Nat×SV)} {S:SE.St} {ps qs:List At} (h:PartOk X n c sl S ps) (hn:∀ p∈ps,p.x=.n∧PartOk X n d p.sl p.S qs):PartOk X n (.seq c d) sl S qs:=by
 intro own0 w0 E w a Q g f hq
 refine wp_seq (h own0 w0 E w a _ g f fun p hp E' a' w' hle g' f'=>?_)
 obtain ⟨hx,hd⟩:=hn p hp
 rw [hx]
 exact hd own0 w0 E' w' a' Q g' f' fun q hq' E2 a2 w2 hle2 g2 f2=>hq q hq' E2 a2 w2 (Env.le_trans hle hle2) g2 f2
theorem PartOk.tbl (t:Tbl X Y) {n:Nat} {c:Code} {sl:List (Nat×SV)} {S:SE.St} {ps:List At} (h:PartOk X n c sl S ps):PartOk Y n c sl S ps:=by
 intro own0 w0 E w a Q g f hq
 rw [t.P]
 exact h own0 w0 E w a Q (g.tbl t.symm) f fun p hp E' a' w' hle g' f'=>hq p hp E' a' w' hle (g'.tbl t) f'
theorem partL (hp:PolFit pc) (hK:KAll (Xc pc) ks) {L n fuel:Nat} {c:Code} {sl:List (Nat×SV)} {S:SE.St} {ps:List At} {named:List (Nat×Nat)}
  (e:atFits L n named ps (exec (TL ks jn nb) fuel c (tmL n sl,S))=true):PartOk (Xc pc) n c sl S ps :=
 (part_run (X:=XL pc ks jn nb) tabL pkL rkL (fun own0 w0=>kok (hK.tbl tblL) rfl own0 w0) (fun gg cs h=>glc_ok (pc:=pc) gg cs h)
  (fun own0 w0 E st w g k svs h=>fzc hp own0 w0 E st w (g.tbl tblL.symm) k svs h) e).tbl tblL.symm
def execs (T:Tb) (fuel:Nat):List Code→Sx→Option (List (SE.X×Sx))
 | [],s=>some [(.n,s)]
 | c::cs,s=>match exec T fuel c s with
  | some l=>thenL (execs T fuel cs) l
  | none=>none
def seqs:List Code→Code→Code
 | [],r=>r
 | c::cs,r=>.seq c (seqs cs r)
theorem execs_ok (hT:TabOk X) (hP:PkOk X) (hR:RkOk X) (hK:∀ own0 w0,KOk X own0 w0) {fuel:Nat} {r:Code}:∀ {cs:List Code} {s:Sx} {l:List (SE.X×Sx)},execs X.T fuel cs s=some l→∀ {E:Env} {a:Act} {w:World} {Q:Exit→Act→World→Prop},
  G X own0 w0 E s.2 w→FOk E s.1 a→PostX X own0 w0 E l (Exit.then (r.wp X.P Q) Q)→(seqs cs r).wp X.P Q a w
 | [],s,l,e,E,a,w,Q,g,f,h=>by
  simp only [execs,Option.some.injEq] at e
  subst e
  exact h (.n,s) List.mem_cons_self E a w (Env.le_refl E) g f
 | c::cs,s,l,e,E,a,w,Q,g,f,h=>by
  simp only [execs] at e
  cases h1:exec X.T fuel c s with
  | none=>simp only [h1] at e; cases e
  | some m =>
   simp only [h1] at e
   simp only [seqs]
   refine wp_seq (exec_ok hT hP hR (hK own0 w0) fuel c s m h1 E a w _ g f fun p hp E' a' w' hle g' f'=>?_)
   obtain ⟨xe,s'⟩:=p
   obtain ⟨k1,k2⟩:=thenL_mem e xe s' hp
   cases xe with
   | n =>
    obtain ⟨m',q1,q2⟩:=k1 rfl
    exact execs_ok hT hP hR hK q1 g' f' (h.mono hle q2)
   | x id=>exact h (.x id,s') (k2 (by simp)) E' a' w' hle g' f'
   | r=>exact h (.r,s') (k2 (by simp)) E' a' w' hle g' f'
theorem parts_run (hT:TabOk X) (hP:PkOk X) (hR:RkOk X) (hK:∀ own0 w0,KOk X own0 w0) (hgl:GlOk X) (hZ:FzOk X zT) {L n fuel:Nat} {cs:List Code} {r:Code} {sl:List (Nat×SV)} {S:SE.St} {ps qs:List At} {named:List (Nat×Nat)}
  (e:atFits L n named ps (execs X.T fuel cs (tmL n sl,S))=true) (hn:∀ p∈ps,p.x=.n∧PartOk X n r p.sl p.S qs):PartOk X n (seqs cs r) sl S qs:=by
 intro own0 w0 E w a Q g f h
 cases hrun:execs X.T fuel cs (tmL n sl,S) with
 | none=>rw [hrun] at e; cases e
 | some l =>
  rw [hrun] at e
  refine execs_ok hT hP hR hK hrun g f fun o ho E' a' w' hle g' f'=>?_
  obtain ⟨p,hp,hx,E2,h1,h2,h3⟩:=anyAt_ok hgl hZ (allAt_ok e o ho) g' f'
  obtain ⟨hxn,hpart⟩:=hn p hp
  rw [← hx,hxn]
  exact hpart own0 w0 E2 w' a' Q h2 h3 fun q hq E3 a3 w3 hle3 g3 f3=>h q hq E3 a3 w3 (Env.le_trans hle (Env.le_trans h1 hle3)) g3 f3
theorem partsL (hp:PolFit pc) (hK:KAll (Xc pc) ks) {L n fuel:Nat} {cs:List Code} {r:Code} {sl:List (Nat×SV)} {S:SE.St} {ps qs:List At} {named:List (Nat×Nat)}
  (e:atFits L n named ps (execs (TL ks jn nb) fuel cs (tmL n sl,S))=true) (hn:∀ p∈ps,p.x=.n∧PartOk (Xc pc) n r p.sl p.S qs):PartOk (Xc pc) n (seqs cs r) sl S qs :=
 (parts_run (X:=XL pc ks jn nb) tabL pkL rkL (fun own0 w0=>kok (hK.tbl tblL) rfl own0 w0) (fun gg cs h=>glc_ok (pc:=pc) gg cs h)
  (fun own0 w0 E st w g k svs h=>fzc hp own0 w0 E st w (g.tbl tblL.symm) k svs h) e (fun p hp'=>⟨(hn p hp').1,(hn p hp').2.tbl tblL⟩)).tbl tblL.symm
theorem sm_part (hX:X.P=Tryz.prog) {gi:Nat} {fn:Func} {c:Code} {args:List SV} {S:SE.St} {ps:List At} {outs:Out} (hf:Tryz.prog.funcs[gi]?=some fn) (hb:fn.body=some c) (hr:fn.results=#[]) (hn:nodupO outs=true)
  (h:∀ own0 w0 E w (a:Act) (Q:Exit→Act→World→Prop),G X own0 w0 E S w→FOk E (fill2 0 args (mkT fn.ntmps 10 1 0)) a→(∀ p∈ps,∀ E' (a':Act) w',E.le E'→G X own0 w0 E' p.S w'→FOk E' (tmL fn.ntmps p.sl) a'→Q (exitOf p.x) a' w')→c.wp X.P Q a w)
  (ho:∀ p∈ps,(p.x=.n∨p.x=.r)∧(.tup [],p.S)∈outs):SmOk X gi ⟨S,args,outs⟩:=by
 refine ⟨nodupO_ok hn,fun own0 w0 E w vals g hrl=>?_⟩
 refine calls_of_wp (by rw [hX]; exact hf) hb (h own0 w0 E w _ _ g (FOk.start hrl fn.ntmps) fun p hp E' a' w' hle g' f'=>?_)
 obtain ⟨hx,hm⟩:=ho p hp
 have hfin:∃ v,(results fn a'.tmps).run X.P w'=.ok v w'∧Outs X own0 w0 E outs (.returned v) w':=by
  refine ⟨.tuple #[],?_,⟨_,hm,E',_,hle,rfl,by simp [R,RL],g'⟩⟩
  unfold results
  rw [hr]
  simp
 rcases hx with hx | hx <;> rw [hx]
 ·exact ⟨f'.defers,hfin⟩
 ·exact ⟨f'.defers,hfin⟩
end SE
end
section
namespace SE
open Go.RowKit
set_option maxHeartbeats 0
noncomputable def codeOf (g:Nat):Code:=match fnT.get g with | some f=>(match f.body with | some c=>c | none=>.skip) | none=>.skip
noncomputable def nthC:Nat→Code→Code
 | 0,.seq a _=>a
 | 0,c=>c
 | n+1,.seq _ b=>nthC n b
 | _+1,c=>c
noncomputable def tailC:Nat→Code→Code
 | 0,c=>c
 | n+1,.seq _ b=>tailC n b
 | _+1,c=>c
def lfK (k:Nat) (id:Nat):Rn:=bif keepN id then .nm id else fN (k*100000+id) fun n=>.nm n
def roleK (b:Nat):List (Nat×List SV):=[(12,[N 0,A (b+231),A (b+234),A 234]),(12,[N 0,A (b+232),A (b+235),A 235]),(12,[N 0,A (b+233),A (b+236),A 236])]
def upK (k:Nat) (S:SE.St):SE.St :=
 { heap:=mvH (lfK k) S.heap,tab:=oldT++mvT (lfK k) S.tab,sls:=mvS true (lfK k) S.sls,nid:=k*100000+400,facts:=roleK (k*100000)++mvF (lfK k) S.facts }
def tkS (k:Nat) (n:Int):SE.St:=upK k (ltX n en0)
def slS:List (Nat×SV):=[(0,.ptr 4 0)]
def tkA (k:Nat) (n:Int):List At:=[⟨.n,slS,tkS k n⟩]
noncomputable def partR (L:Nat) (cs:List Code) (S:SE.St) (ps:List At):Bool:=atFits L 105 namedC ps (execs (TL kScene2 joinT false) 60 cs (tmL 105 slS,S))
noncomputable def tickRB:Bool:=partR 300000 [nthC 1 (codeOf 53),nthC 2 (codeOf 53),nthC 3 (codeOf 53)] (tkS 2 10) (tkA 3 12)
noncomputable def tickRD:Bool:=partR 400000 [nthC 4 (codeOf 53)] (tkS 3 12) (tkA 4 18)
noncomputable def tickRF:Bool:=partR 1100000 [tailC 6 (codeOf 53)] (tkS 10 22) (tkA 11 22)
def sessG (gone:Bool) (f r s:Nat):List SV:=bif gone then [.ff,N 0,N 0,N 0]++rep 32 byteCell++[.ff,N 0,.int .u64 (.r 0 0)] else sessCells f r s
def tableG (g0 g1 g2 g3:Bool):List SV:=(bif g0 then [.ff,N 0,N 0] else [.cmp .ne 230 0,U 0 1000,U 0 1000])++sessG g1 231 234 270++sessG g2 232 235 271++sessG g3 233 236 272++[A 142,A 149]
def goneL (g0 g1 g2 g3:Bool):List SV:=(bif g0 then [N 0] else [])++((bif g1 then [N 1] else [])++((bif g2 then [N 2] else [])++(bif g3 then [N 3] else [])))
def rowH:List SV→List (Nat×Blk)
 | []=>[]
 | l=>[(100040,.row 3 1 100041 l)]
def rowS:List SV→List (Nat×SlI)
 | []=>[]
 | l=>[(100041,.row 100040 l.length)]
def goneS (g0 g1 g2 g3:Bool):SE.St where
 heap:=rowH (goneL g0 g1 g2 g3)++upd (exX 0 en0 []).heap 2 (.cells 145 (tableG g0 g1 g2 g3))
 tab:=(exX 0 en0 []).tab
 sls:=rowS (goneL g0 g1 g2 g3)++(exX 0 en0 []).sls
 nid:=100400
 facts:=(exX 0 en0 []).facts
def goneSl (g0 g1 g2 g3:Bool):List (Nat×SV) :=
 match goneL g0 g1 g2 g3 with
 | []=>[(0,.ptr 4 0),(15,.nils),(16,N 0),(17,N 0)]
 | l=>[(0,.ptr 4 0),(15,.sl 100041),(16,N (Int.ofNat l.length)),(17,N 0)]
def goneA (g0 g1 g2 g3:Bool):At:=⟨.n,goneSl g0 g1 g2 g3,goneS g0 g1 g2 g3⟩
def goneAll:List At:=[true,false].flatMap fun a=>[true,false].flatMap fun b=>[true,false].flatMap fun c=>[true,false].map fun d=>goneA a b c d
noncomputable def tickR0:Bool:=atFits 100000 105 [] goneAll (execs (TL kScene2 joinT false) 60 [nthC 0 (nthC 0 (codeOf 53))] (tmL 105 slS,exX 0 en0 []))
noncomputable def tickR1 (g0 g1 g2 g3:Bool):Bool:=atFits 200000 105 namedC (tkA 2 10) (execs (TL kScene2 joinT false) 60 [tailC 1 (nthC 0 (codeOf 53))] (tmL 105 (goneSl g0 g1 g2 g3),goneS g0 g1 g2 g3))
end SE
end
section
namespace SE
open Go.RowKit
set_option maxHeartbeats 0
def lfT (id:Nat):Rn:=bif keepN id then .nm id else fN (2000000+id) fun n=>.nm n
def roleT (en:List SV):List (Nat×List SV) :=
 match en with
 | [a,b,c]=>[(12,[a,A 2000231,A 2000234,A 234]),(12,[b,A 2000232,A 2000235,A 235]),(12,[c,A 2000233,A 2000236,A 236])]
 | _=>[]
def tlHead:List SV:=[A 2000214,A 2000215,A 2000220,A 2000221,A 2000222,A 2000223,I64,I64,I64,I64,I64,I64]
def tlV:SV:=.agg (tlHead++[.sl 2000031,.sl 2000032]++rep 32 byteCell)
def nowHead:List SV:=[A 214,A 215,A 220,A 221,A 222,A 223,I64,I64,I64,I64,I64,I64]
def tlN:SV:=.agg (nowHead++[.nils,.nils]++rep 32 byteCell)
def newF:List SV:=[A 2000231,A 2000232,A 2000233]
def newB3:List SV:=[A 2000237,A 2000238,A 2000239]
def tlS (n:Int) (ws en:List SV) (tb:List (Nat×Int×Int)) (fs:List (Nat×List SV)):SE.St where
 heap:=(2000006,.opq)::(2000007,.opq)::mvH lfT coreHeap
 tab:=tb++(oldT++mvT lfT (polTab++coreTab))
 sls:=(2000031,.own 2000006 3 [U 0 n])::(2000032,.own 2000007 2 ([U 0 n,A 231,A 232,A 233,A 237,A 238,A 239]++newF++ws++en))::mvS true lfT coreSls
 nid:=2000400
 facts:=fs++(roleT en++mvF lfT coreFacts)
def tlE (n:Int) (en:List SV):SV×SE.St:=(tlV,tlS n newB3 en [] [])
def lateB:List SV:=[A 2000246,A 2000247,A 2000248]
def tlL (n:Int) (en:List SV):SV×SE.St:=(tlV,tlS n lateB en [(2000246,0,1),(2000247,0,1),(2000248,0,1)] [(7,[A 2000237,A 2000246]),(7,[A 2000238,A 2000247]),(7,[A 2000239,A 2000248])])
noncomputable def coreR (ks:List (Nat×(List SV→SE.St→Option Out))) (gi:Nat) (m:Sm):Bool:=runFits 2000000 namedC m.outs (run (TL ks joinT false) 60 gi m.args m.S)
def sampV:SV:=.agg [.bool,I64,I64,I64,I64,.bool]
def giveM:Sm:=⟨exX 0 en0 [(200,0,0)],[.ptr 4 0],[(.tup [],exO 4)]⟩
def flyM:Sm:=⟨exX 0 en0 [(200,0,0)],[.ptr 4 0,sampV],[(.tup [],exO 4)]⟩
def overM:Sm:=⟨exX 0 en0 [],[.ptr 4 0],[(.tup [],exO 4)]⟩
noncomputable abbrev kSam:List (Nat×(List SV→SE.St→Option Out)):=(76,kSm giveM namedC true)::(77,kSm flyM namedC true)::(78,kSm overM namedC true)::kScene2
def sampM:Sm:=⟨exX 0 en0 [],[.ptr 4 0,sampV],[(.tup [],upK 3 (exX 4 en0 []))]⟩
noncomputable def sampR:Bool:=runFits 300000 namedC sampM.outs (run (TL kSam joinT false) 60 51 sampM.args sampM.S)
def hlthF:Sm:=⟨exX 0 en0 [],[.ptr 4 0,.ff],[(.tup [],exO 4)]⟩
def slH:List (Nat×SV):=[(1,.tt),(0,.ptr 4 0)]
def hlA:At:=⟨.n,slS,upK 1 (exX 4 en0 [])⟩
def bitH (l:List Nat) (n:Nat):Int:=bif hasN l n then 1 else 0
def rowHL:List Nat→List (Nat×Blk)
 | []=>[]
 | l=>[(200040,.row 112 4 200041 (askCells l))]
def rowSL:List Nat→List (Nat×SlI)
 | []=>[]
 | l=>[(200041,.row 200040 l.length)]
def slL:List Nat→List (Nat×SV)
 | []=>[(0,.ptr 4 0),(51,.nils),(52,N 0),(53,N 0)]
 | l=>[(0,.ptr 4 0),(51,.sl 200041),(52,N (Int.ofNat l.length)),(53,N 0)]
def hlS (l:List Nat):SE.St :=
 (fun S:SE.St=>{ heap:=rowHL l++(200005,.opq)::del (upd S.heap 3 (.cells 158 [.sl 200030,A 148,C64])) 100005,tab:=(100237,bitH l 1,bitH l 1)::(100238,bitH l 2,bitH l 2)::(100239,bitH l 3,bitH l 3)::S.tab,sls:=rowSL l++(200030,.own 200005 1 [U 0 3,A 100237,A 100238,A 100239,A 148])::del S.sls 100030,nid:=200400,facts:=S.facts }) (upK 1 (exX 4 en0 []))
def hlB (l:List Nat):At:=⟨.n,slL l,hlS l⟩
def hlC:At:=⟨.n,slS,upK 3 (ltX 10 en0)⟩
def hlD:At:=⟨.n,slS,upK 4 (ltX 10 en0)⟩
noncomputable def hlR (L:Nat) (named:List (Nat×Nat)) (cs:List Code) (p:At) (qs:List At):Bool:=atFits L 83 named qs (execs (TL kScene2 joinT false) 60 cs (tmL 83 p.sl,p.S))
noncomputable def hlRA:Bool:=hlR 100000 namedC [nthC 0 (codeOf 52),nthC 1 (codeOf 52),nthC 2 (codeOf 52),nthC 3 (codeOf 52)] ⟨.n,slH,exX 0 en0 []⟩ [hlA]
noncomputable def hlRB:Bool:=hlR 200000 [] [nthC 0 (nthC 4 (codeOf 52))] hlA (allSeqs.map hlB)
noncomputable def hlRC (l:List Nat):Bool:=hlR 300000 namedC [tailC 1 (nthC 4 (codeOf 52))] (hlB l) [hlC]
noncomputable def hlRD:Bool:=hlR 400000 namedC [tailC 5 (codeOf 52)] hlC [hlD]
def hlthT:Sm:=⟨exX 0 en0 [],[.ptr 4 0,.tt],[(.tup [],upK 4 (ltX 10 en0))]⟩
def kSamp:List SV→SE.St→Option Out:=kSm sampM namedC true
def selH (args:List SV) (st:SE.St):Option (List SV→SE.St→Option Out) :=
 match args with
 | [_,.ff]=>some (kSm hlthF namedC true)
 | [_,.tt]=>some (kSm hlthT namedC true)
 | _=>none
def kHlth (args:List SV) (st:SE.St):Option Out:=match selH args st with | some kf=>kf args st | none=>none
noncomputable abbrev kCore1:List (Nat×(List SV→SE.St→Option Out)):=(51,kSamp)::(52,kHlth)::kScene2
def nowM:Sm:=⟨coreSt,[.ptr 1 0],[(tlN,{ coreSt with nid:=2000400 })]⟩
def sampleM:Sm:=⟨coreSt,[.ptr 1 0,sampV],[tlE 4 en0]⟩
def healthF:Sm:=⟨coreSt,[.ptr 1 0,.ff],[tlE 4 en0]⟩
def healthT:Sm:=⟨coreSt,[.ptr 1 0,.tt],[tlL 10 en0]⟩
end SE
end
section
namespace SE
variable {X Y:Px} {own0:Nat→Prop} {w0 w:World} {E:Env} {st S:SE.St} {pc:Array Value} {ks:List (Nat×(List SV→SE.St→Option Out))} {jn:Nat→Bool} {nb:Bool} {tm:TT} {a:Act}
inductive Sk where
 | run | hook
 | seq (a b:Sk) | cond (a b:Sk) | block (b:Sk)
abbrev Hook:=Sx→Option (List (SE.X×Sx))
def hkAt (D:Code):Sk→Code→Prop
 | .hook,c=>c=D
 | .seq p q,.seq a b=>hkAt D p a∧hkAt D q b
 | .cond p q,.cond _ a b=>hkAt D p a∧hkAt D q b
 | .block p,.block _ b=>hkAt D p b
 | _,_=>True
def execK (T:Tb) (f:Nat) (H:Hook):Sk→Code→Sx→Option (List (SE.X×Sx))
 | .run,c,s=>exec T f c s
 | .hook,c,s=>H s
 | .seq p q,.seq a b,s=>match execK T f H p a s with
  | some l=>thenL (execK T f H q b) l
  | none=>none
 | .cond p q,.cond c a b,s=>match evalB s.2 (rho s.1 c) with
  | some true=>execK T f H p a s
  | some false=>execK T f H q b s
  | none=>bif isB (rho s.1 c) then
    (match bindL (fun st=>setC s.1 c true fun tm=>fStT st fun st=>execK T f H p a (tm,st)) (assumeL s.2 (rho s.1 c) true),
     bindL (fun st=>setC s.1 c false fun tm=>fStT st fun st=>execK T f H q b (tm,st)) (assumeL s.2 (rho s.1 c) false) with
    | some l,some m=>some (l++m)
    | _,_=>none)
   else none
 | .block p,.block id b,s=>match execK T f H p b s with
  | some l=>some (blockL id l)
  | none=>none
 | _,_,_=>none
def HookOk (X:Px) (own0:Nat→Prop) (w0:World) (D:Code) (H:Hook):Prop :=
 ∀ s l,H s=some l→∀ E a w (Q:Exit→Act→World→Prop),G X own0 w0 E s.2 w→FOk E s.1 a→PostX X own0 w0 E l Q→D.wp X.P Q a w
theorem execK_ok (hT:TabOk X) (hP:PkOk X) (hR:RkOk X) (hK:KOk X own0 w0) {f:Nat} {D:Code} {H:Hook} (hH:HookOk X own0 w0 D H):∀ (p:Sk) (c:Code),hkAt D p c→∀ s l,execK X.T f H p c s=some l →
  ∀ E a w (Q:Exit→Act→World→Prop),G X own0 w0 E s.2 w→FOk E s.1 a→PostX X own0 w0 E l Q→c.wp X.P Q a w
 | .run=>fun c _ s l e=>exec_ok hT hP hR hK f c s l (by simpa only [execK] using e)
 | .hook=>fun c hd s l e=>by
  have:c=D:=by simpa only [hkAt] using hd
  subst this
  exact hH s l (by simpa only [execK] using e)
 | .seq p q=>by
  have ihp:=execK_ok (f:=f) hT hP hR hK hH p
  have ihq:=execK_ok (f:=f) hT hP hR hK hH q
  intro c hd s l e E a w Q g fo h
  cases c <;> simp only [execK] at e <;> try cases e
  case seq x y =>
   cases h1:execK X.T f H p x s with
   | none=>simp only [h1] at e; cases e
   | some m =>
    simp only [h1] at e
    refine wp_seq (ihp x hd.1 s m h1 E a w _ g fo fun p hp E' a' w' hle g' f'=>?_)
    obtain ⟨xe,s'⟩:=p
    obtain ⟨k1,k2⟩:=thenL_mem e xe s' hp
    cases xe with
    | n =>
     obtain ⟨m',q1,q2⟩:=k1 rfl
     exact ihq y hd.2 s' m' q1 E' a' w' _ g' f' (h.mono hle q2)
    | x id=>exact h (.x id,s') (k2 (by simp)) E' a' w' hle g' f'
    | r=>exact h (.r,s') (k2 (by simp)) E' a' w' hle g' f'
 | .cond p q=>by
  have ihp:=execK_ok (f:=f) hT hP hR hK hH p
  have ihq:=execK_ok (f:=f) hT hP hR hK hH q
  intro c hd s l e E a w Q g fo h
  cases c <;> simp only [execK] at e <;> try cases e
  case cond c x y =>
   have hv:=fo.eval c
   cases hb:evalB s.2 (rho s.1 c) with
   | some b =>
    have hv':=evalB_ok g hb hv
    simp only [hb] at e
    refine wp_cond_split hv' (fun ht=>?_) (fun ht=>?_) <;> subst ht <;> simp only at e
    ·exact ihp x hd.1 s l e E a w Q g fo h
    ·exact ihq y hd.2 s l e E a w Q g fo h
   | none =>
    simp only [hb,cond_eq_ite] at e
    split at e
    ·rename_i hi
     obtain ⟨b,hv'⟩:=isB_ok hi hv
     have hs:R E (rho s.1 c) (.bool b):=by rw [← hv']; exact hv
     obtain ⟨st',ha,g'⟩:=assumeL_ok g hs
     have f':=fo.setC hv'
     simp only [setC_eq,fSt_eq,fStM_eq,fStT_eq] at e
     revert e
     split
     ·rename_i l m h1 h2
      intro e
      cases e
      refine wp_cond_split hv' (fun ht=>?_) (fun ht=>?_) <;> subst ht
      ·obtain ⟨m',hm1,hm2⟩:=bindL_mem h1 st' ha
       exact ihp x hd.1 _ m' hm1 E a w Q g' f' (h.mono (Env.le_refl E) fun p hp=>List.mem_append_left _ (hm2 p hp))
      ·obtain ⟨m',hm1,hm2⟩:=bindL_mem h2 st' ha
       exact ihq y hd.2 _ m' hm1 E a w Q g' f' (h.mono (Env.le_refl E) fun p hp=>List.mem_append_right _ (hm2 p hp))
     ·intro e; cases e
    ·cases e
 | .block p=>by
  have ih:=execK_ok (f:=f) hT hP hR hK hH p
  intro c hd s l e E a w Q g fo h
  cases c <;> simp only [execK] at e <;> try cases e
  case block id b =>
   cases h1:execK X.T f H p b s with
   | none=>simp only [h1] at e; cases e
   | some m =>
    simp only [h1,Option.some.injEq] at e
    subst e
    refine wp_block (ih b hd s m h1 E a w _ g fo fun p hp E' a' w' hle g' f'=>?_)
    obtain ⟨xe,s'⟩:=p
    have hm:=blockL_mem (id:=id) hp
    cases xe with
    | n=>exact h (.n,s') hm E' a' w' hle g' f'
    | r=>exact h (.r,s') hm E' a' w' hle g' f'
    | x i =>
     simp only [exitOf,Exit.inBlock]
     simp only at hm
     cases hq:Nat.beq i id with
     | true =>
      rw [hq] at hm
      rw [if_pos (nbeq hq)]
      exact h (.n,s') hm E' a' w' hle g' f'
     | false =>
      rw [hq] at hm
      rw [if_neg (nbeq_false hq)]
      exact h (.x i,s') hm E' a' w' hle g' f'
def atsX (n:Nat):List At→List (SE.X×Sx)
 | []=>[]
 | p::l=>(p.x,(tmL n p.sl,p.S))::atsX n l
theorem atsX_mem {n:Nat}:∀ {l:List At} {p:At},p∈l→(p.x,(tmL n p.sl,p.S))∈atsX n l
 | q::l,p,h=>by
  simp only [atsX]
  rcases List.mem_cons.1 h with rfl | h
  ·exact List.mem_cons_self
  ·exact List.mem_cons_of_mem _ (atsX_mem h)
def hkA (L n:Nat) (named:List (Nat×Nat)) (b:At) (qs:List At):Hook:=fun s=>bif atCase L n named b (b.x,s) then some (atsX n qs) else none
theorem hkA_ok {L n:Nat} (hgl:GlOk X) (hZ:FzOk X zT) {named:List (Nat×Nat)} {b:At} {qs:List At} {D:Code} (h:PartOk X n D b.sl b.S qs):HookOk X own0 w0 D (hkA L n named b qs):=by
 intro s l e E a w Q g f hq
 unfold hkA at e
 simp only [cond_eq_ite] at e
 split at e
 ·rename_i hb
  cases e
  obtain ⟨_,E',h1,h2,h3⟩:=atCase_ok hgl hZ hb g f
  exact h own0 w0 E' w a Q h2 h3 fun p hp E2 a2 w2 hle g2 f2=>hq _ (atsX_mem hp) E2 a2 w2 (Env.le_trans h1 hle) g2 f2
 ·cases e
theorem partK (hp:PolFit pc) (hK:KAll (Xc pc) ks) {L L' n fuel:Nat} {k:Sk} {c D:Code} {sl:List (Nat×SV)} {S:SE.St} {ps qs:List At} {b:At} {named named':List (Nat×Nat)}
  (hD:PartOk (Xc pc) n D b.sl b.S qs) (hd:hkAt D k c) (e:atFits L n named ps (execK (TL ks jn nb) fuel (hkA L' n named' b qs) k c (tmL n sl,S))=true):PartOk (Xc pc) n c sl S ps:=by
 have hgl:GlOk (XL pc ks jn nb):=fun gg cs h=>glc_ok (pc:=pc) gg cs h
 have hZ:FzOk (XL pc ks jn nb) zT:=fun own0 w0 E st w g k svs h=>fzc hp own0 w0 E st w (g.tbl tblL.symm) k svs h
 refine PartOk.tbl (X:=XL pc ks jn nb) tblL.symm ?_
 intro own0 w0 E w a Q g f h
 cases hrun:execK (TL ks jn nb) fuel (hkA L' n named' b qs) k c (tmL n sl,S) with
 | none=>rw [hrun] at e; cases e
 | some l =>
  rw [hrun] at e
  refine execK_ok (X:=XL pc ks jn nb) tabL pkL rkL (kok (hK.tbl tblL) rfl own0 w0) (hkA_ok hgl hZ (hD.tbl tblL)) k c hd (tmL n sl,S) l hrun E a w Q g f fun o ho E' a' w' hle g' f'=>?_
  obtain ⟨p,hp,hx,E2,h1,h2,h3⟩:=anyAt_ok hgl hZ (allAt_ok e o ho) g' f'
  rw [← hx]
  exact h p hp E2 a' w' (Env.le_trans hle h1) h2 h3
theorem partsE (hp:PolFit pc) (hK:KAll (Xc pc) ks) {L n fuel:Nat} {c:Code} {sl:List (Nat×SV)} {S:SE.St} {ps:List At} {named:List (Nat×Nat)}
  (e:atFits L n named ps (execs (TL ks jn nb) fuel [c] (tmL n sl,S))=true):PartOk (Xc pc) n c sl S ps:=by
 have hgl:GlOk (XL pc ks jn nb):=fun gg cs h=>glc_ok (pc:=pc) gg cs h
 have hZ:FzOk (XL pc ks jn nb) zT:=fun own0 w0 E st w g k svs h=>fzc hp own0 w0 E st w (g.tbl tblL.symm) k svs h
 refine PartOk.tbl (X:=XL pc ks jn nb) tblL.symm ?_
 intro own0 w0 E w a Q g f h
 cases hrun:execs (TL ks jn nb) fuel [c] (tmL n sl,S) with
 | none=>rw [hrun] at e; cases e
 | some l =>
  rw [hrun] at e
  simp only [execs] at hrun
  cases h1:exec (TL ks jn nb) fuel c (tmL n sl,S) with
  | none=>simp only [h1] at hrun; cases hrun
  | some m =>
   simp only [h1] at hrun
   refine exec_ok (X:=XL pc ks jn nb) tabL pkL rkL (kok (hK.tbl tblL) rfl own0 w0) fuel c (tmL n sl,S) m h1 E a w Q g f fun o ho E' a' w' hle g' f'=>?_
   obtain ⟨xe,s'⟩:=o
   obtain ⟨k1,k2⟩:=thenL_mem hrun xe s' ho
   have hm:(xe,s')∈l:=by
    cases xe with
    | n =>
     obtain ⟨m',q1,q2⟩:=k1 rfl
     simp only [Option.some.injEq] at q1
     subst q1
     exact q2 _ List.mem_cons_self
    | x id=>exact k2 (by simp)
    | r=>exact k2 (by simp)
   obtain ⟨p,hp,hx,E2,q1,q2,q3⟩:=anyAt_ok hgl hZ (allAt_ok e _ hm) g' f'
   rw [← hx]
   exact h p hp E2 a' w' (Env.le_trans hle q1) q2 q3
end SE
end
section
namespace SE
open Go.RowKit
set_option maxHeartbeats 0
noncomputable def elseC:Code→Code
 | .cond _ _ b=>b
 | c=>c
noncomputable def thenC:Code→Code
 | .cond _ a _=>a
 | c=>c
noncomputable def unB:Code→Code
 | .block _ b=>b
 | c=>c
noncomputable def itD:Code:=elseC (tailC 1 (elseC (tailC 1 (elseC (tailC 1 (unB (tailC 1 (codeOf 50))))))))
def joinI (g:Nat):Bool:=Nat.beq g 68
def slD (l:Nat):List (Nat×SV):=[(0,.ptr 4 0),(1,N (Int.ofNat l)),(5,.ptr 100305 0)]
def itX:SE.St:={ byX with heap:=(100305,.cells 93 [U 0 100,.sl 25])::byX.heap,nid:=100400 }
def itB (l:Nat):At:=⟨.n,slD l,itX⟩
def sess2 (r:Nat):List SV:=[.tt,U 0 1000,U 0 1000,A r]++rep 32 byteCell++[.bool,U 0 4294967295,.int .u64 (.a 200273)]
def table2 (l:Nat):List SV :=
 match l with
 | 0=>[.cmp .ne 230 0,U 0 1000,U 0 1000]++sessCells 231 234 200270++sessCells 232 235 200271++sessCells 233 236 200272++[A 142,A 149]
 | 1=>[.cmp .ne 230 0,U 0 1000,U 0 1000]++sess2 234++sessCells 232 235 200271++sessCells 233 236 200272++[A 142,A 149]
 | 2=>[.cmp .ne 230 0,U 0 1000,U 0 1000]++sessCells 231 234 200270++sess2 235++sessCells 233 236 200272++[A 142,A 149]
 | _=>[.cmp .ne 230 0,U 0 1000,U 0 1000]++sessCells 231 234 200270++sessCells 232 235 200271++sess2 236++[A 142,A 149]
def msg2 (k:Int) (t:SV):List SV:=[N k,U 0 4294967295,A 200301,t,U 0 65535,A 200303,A 200304,.bool,U (-32768) 32767,U (-32768) 32767,U (-32768) 32767,U (-32768) 32767]
def zero2:List SV:=[N 0,N 0,N 0,N 0,N 0,N 0,N 0,.ff,N 0,N 0,N 0,N 0]
def slT (l:Nat) (e:SV):List (Nat×SV):=[(0,.ptr 4 0),(1,N (Int.ofNat l)),(6,.ptr 200306 0),(7,e)]
def takeN (l:Nat):At:=⟨.n,slT l (U 1 20),{ itX with heap:=(200306,.cells 169 zero2)::upd byX.heap 2 (.cells 145 (table2 0)),nid:=200400 }⟩
def takeK (l:Nat) (k:Int) (t:SV):At :=
 ⟨.n,slT l (N 0),{ itX with heap:=(200306,.cells 169 (msg2 k t))::upd byX.heap 2 (.cells 145 (table2 l)),tab:=(200301,0,3)::(200303,0,4)::(200304,bif decide (k=11) then 1 else 0,3)::(230+l,1,1)::byX.tab,nid:=200400 }⟩
def takeAll (l:Nat):List At:=takeN l::(([3,4,5,7,8,9,10,11].map fun k=>takeK l k (U 0 4))++[0,1,2,3,4].map fun t=>takeK l 6 (N t))
noncomputable def itR1 (l:Nat):Bool:=atFits 200000 70 [] (takeAll l) (execs (TL kItem joinT false) 60 [nthC 0 itD] (tmL 70 (slD l),itX))
def roleE (b:Nat) (en:List SV):List (Nat×List SV) :=
 match en with
 | [x,y,z]=>[(12,[x,A (b+231),A (b+234),A 234]),(12,[y,A (b+232),A (b+235),A 235]),(12,[z,A (b+233),A (b+236),A 236])]
 | _=>[]
def itS (k:Nat) (en:List SV):SE.St :=
 (fun S:SE.St=>{ heap:=mvH (lfK k) S.heap,tab:=oldT++mvT (lfK k) S.tab,sls:=mvS true (lfK k) S.sls,nid:=k*100000+400,facts:=roleE (k*100000) en++mvF (lfK k) S.facts }) (exX 4 en [])
def itE:List At:=[⟨.n,slS,itS 4 en0⟩,⟨.r,slS,itS 4 en0⟩]
def itF (l:Nat):List At:=[⟨.n,slS,itS 5 en0⟩,⟨.r,slS,itS 5 en0⟩,⟨.n,slS,itS 5 (enL l)⟩]
noncomputable def itR2 (l:Nat) (p:At):Bool:=atFits 400000 70 namedC itE (execs (TL kItem joinI false) 60 [tailC 1 itD] (tmL 70 p.sl,p.S))
def sk50:Sk:=.seq .run (.block (.seq .run (.cond .run (.seq .run (.cond .run (.seq .run (.cond .run .hook)))))))
def sl50 (l:Nat):List (Nat×SV):=[(2,.agg [A 298,.sl 25]),(1,N (Int.ofNat l)),(0,.ptr 4 0)]
def S50:SE.St:={ byX with tab:=(298,0,100)::byX.tab }
noncomputable def itR3 (l:Nat):Bool:=atFits 500000 70 namedC (itF l) (execK (TL kItem joinI false) 60 (hkA 100000 70 namedC (itB l) itE) sk50 (codeOf 50) (tmL 70 (sl50 l),S50))
end SE
end
section
namespace SE
open Go.RowKit
set_option maxHeartbeats 0
variable {X:Px} {own0:Nat→Prop} {w0 w:World} {E:Env} {st:SE.St}
def anyLen:Int:=9223372036854775807
def kKeyB (args:List SV) (st:SE.St):Option Out :=
 match args with
 | [b]=>bif lenR st b 0 anyLen then some [(.sl st.nid,newB' st 1 64)] else none
 | _=>none
def kCloneB (args:List SV) (st:SE.St):Option Out :=
 match args with
 | [b]=>bif lenR st b 1 64 then some [(.sl st.nid,newB' st 1 64)] else none
 | _=>none
def modO (st:SE.St):Nat→Out
 | 0=>[]
 | n+1=>(N (Int.ofNat n),st)::modO st n
def kMod (args:List SV) (st:SE.St):Option Out :=
 match args with
 | [x,m]=>match cstN st m with
  | some k=>bif isI x&&(isI m&&(Nat.ble 1 k&&Nat.ble k 100000)) then
    (bif Nat.ble k 3 then some (modO st k) else fN (k - 1) fun h=>some [(A st.nid,atom st 0 (Int.ofNat h))]) else none
  | none=>none
 | _=>none
abbrev kFit:List (Nat×(List SV→SE.St→Option Out)):=[(26,kKeyB),(27,kMod)]
def fitA:List SV:=[I64,I64,I64,I64,I64,.sl 1,.sl 2,.sl 3,.sl 4]++rep 47 I64
def fitS0:SE.St:=⟨[],[],[(1,.bytes (.r 0 anyLen)),(2,.bytes (.r 0 anyLen)),(3,.bytes (.r 0 anyLen)),(4,.bytes (.r 0 anyLen))],10,[]⟩
def fitR:List (Int×Int):=[(1,1),(0,14),(0,14),(0,14),(0,0)]++List.replicate 20 (0,15)++List.replicate 5 (0,31)++[(0,4),(0,4),(0,4),(1,1000),(1,1000),(1,1000),(1,1000),(1,1000),(0,1000),(1,3),(1,3),(0,0),(0,1000),(0,1000),(0,1000),(1,1000),(0,65535)]
def inRg (st:SE.St):List SV→List (Int×Int)→Bool
 | [],[]=>true
 | v::l,(a,b)::m=>isIn st v a b&&inRg st l m
 | _,_=>false
def hasC (l:List SV) (n:Int):Bool:=match l with
 | []=>false
 | .int .i64 (.r a b)::l=>(decide (a=n)&&decide (b=n))||hasC l n
 | _::l=>hasC l n
def fitO (o:SV×SE.St):Bool :=
 match o.1 with
 | .agg (a::b::c::d::e::k1::k2::k3::k4::l) =>
  (fun q=>(isIn o.2 a 0 0&&(isIn o.2 b 1 3&&(isIn o.2 c 1 3&&(isIn o.2 d 1 3&&isIn o.2 e 4 4))))&&(hasC q 0&&(hasC q 1&&(hasC q 2&&(hasC q 3&&hasC q 4))))) [a,b,c,d,e] &&
   (lenR o.2 k1 1 64&&(lenR o.2 k2 1 64&&(lenR o.2 k3 1 64&&(lenR o.2 k4 1 64&&inRg o.2 l fitR))))
 | _=>false
noncomputable def fitRun:Bool:=runO fitO (run (Xw (kL kFit)).T 60 16 [.agg fitA] fitS0)
abbrev kNew:List (Nat×(List SV→SE.St→Option Out)):=[(43,kCloneB)]
def pol9:List (Nat×Int×Int):=(List.range 47).map fun i=>(109+i,(fitR.getD i (0,0)).1,(fitR.getD i (0,0)).2)
def newS:SE.St:=⟨[],[(100,0,0),(101,1,3),(102,1,3),(103,1,3),(104,4,4)]++pol9,[(21,.bytes (.r 1 64)),(22,.bytes (.r 1 64)),(23,.bytes (.r 1 64)),(24,.bytes (.r 1 64))],300,[]⟩
noncomputable def chkC:Nat→Code
 | 0=>unB (nthC 0 (tailC 1 (codeOf 41)))
 | k+1=>elseC (tailC 1 (chkC k))
def chkS (k:Nat):SE.St:={ newS with heap:=[(310,.cells 28 polCells)],nid:=10000*(k+1) }
def chkB (k:Nat):At:=⟨.n,[(1,.ptr 310 0),(2,N 0)],chkS k⟩
def chkQ:List At:=[⟨.r,[(2,U 1 50)],chkS 20⟩,⟨.n,[(2,N 0)],chkS 20⟩]
noncomputable def chkR (k:Nat):Bool:=atFits 210000 118 [] chkQ (execK (TL kNew (fun _=>false) false) 60 (hkA (10000*(k+2)) 118 [] (chkB (k+1)) chkQ) (.seq .run (.cond .run .hook)) (chkC k) (tmL 118 (chkB k).sl,(chkB k).S))
def chkE:SE.St:=⟨[],[],[],310000,[]⟩
def chkF:List At:=[⟨.r,[(2,U 1 50)],chkE⟩,⟨.r,[(2,N 0)],chkE⟩]
def chkS0:SE.St:={ newS with nid:=310 }
noncomputable def chkTop:Bool:=atFits 310000 118 [] chkF (execK (TL kNew (fun _=>false) false) 60 (hkA 10000 118 [] (chkB 0) chkQ) (.seq .run (.seq (.block .hook) .run)) (codeOf 41) (tmL 118 [(0,.agg polCells)],chkS0))
def chkM:Sm:=⟨chkS0,[.agg polCells],[(U 1 50,chkE),(N 0,chkE)]⟩
def kChk:List SV→SE.St→Option Out:=kSm chkM [] true
abbrev kNew2:List (Nat×(List SV→SE.St→Option Out)):=[(41,kChk),(43,kCloneB)]
def lfW (id:Nat):Rn:=bif Nat.ble 100 id&&Nat.ble id 155 then .nm id else fN (1000000+id) fun n=>.nm n
def rawTab:List (Nat×Int×Int) :=
 [(200,4,4),(201,-1,-1),(202,0,65535),(210,0,0),(211,0,0),(212,0,0),(214,0,4),(215,1,1)]++((List.range 8).map fun i=>(216+i,0,0))++[(230,0,0),(231,0,0),(232,0,0),(233,0,0),(234,0,0),(235,0,0),(236,0,0)]
def rawHeap:List (Nat×Blk):=[(1,.cells 108 coreCells),(2,.cells 145 tableCells),(3,.cells 158 [.nils,A 148,C64])]
def rawSls:List (Nat×SlI):=[(21,.bytes (.r 1 64)),(22,.bytes (.r 1 64)),(23,.bytes (.r 1 64)),(24,.bytes (.r 1 64))]
def deadM0:SE.St:=⟨[(1000310,.cells 71 [.nilp,U 0 50,.nilp,.nilp,.nilp])],[],[],1000400,[]⟩
def strmC:List (Nat×Blk):=[(1000311,.cells 124 [.nils]),(1000312,.cells 124 [.nils]),(1000313,.cells 124 [.nils])]
def aliveS:SE.St where
 heap:=(1000310,.cells 71 [.ptr 1000001 0,N 0,.ptr 1000311 0,.ptr 1000312 0,.ptr 1000313 0])::(strmC++mvH lfW rawHeap)
 tab:=mvT lfW (newS.tab++rawTab)
 sls:=mvS true lfW rawSls
 nid:=1000400
 facts:=[]
def newM:Sm:=⟨newS,[.agg polCells],[(.ptr 1000310 0,deadM0),(.ptr 1000310 0,aliveS)]⟩
noncomputable def newR:Bool:=runFits 1000000 namedC newM.outs (run (TL kNew2 (fun _=>false) false) 60 17 newM.args newM.S)
end SE
end
section
namespace SE
open Go.RowKit
set_option maxHeartbeats 0
variable {X:Px} {own0:Nat→Prop} {w0 w w':World} {E:Env} {st:SE.St} {pc:Array Value}
theorem k_keyB (hP:X.P=Tryz.prog):KOne X 26 kKeyB:=by
 intro own0 w0 args st out h E w vals g hr
 unfold kKeyB at h
 split at h
 ·rename_i b
  obtain ⟨x,e,hx⟩:=RL1 hr
  rw [arr_of e]
  simp only [cond_eq_ite] at h
  split at h
  ·rename_i hc
   cases h
   obtain ⟨b1,l1,c1,rfl,q1,q2,q3,q4,q5⟩:=lenR_ok g hc hx
   obtain ⟨l,hl,hrd⟩:=reads_of q4 q5
   rw [hP]
   refine (key_any w.heap.size b1 l1 c1 l w hrd (Nat.le_refl _) (by omega)).mono fun e w' he=>?_
   obtain ⟨v,rfl,hb,hn⟩:=he
   obtain ⟨E',hle,hR,hG⟩:=g.newRow (g.below hb) hn
   exact ⟨_,List.mem_cons_self,E',_,hle,rfl,hR,hG⟩
  ·cases h
 ·cases h
theorem k_cloneB (hP:X.P=Tryz.prog):KOne X 43 kCloneB:=by
 intro own0 w0 args st out h E w vals g hr
 unfold kCloneB at h
 split at h
 ·rename_i b
  obtain ⟨x,e,hx⟩:=RL1 hr
  rw [arr_of e]
  simp only [cond_eq_ite] at h
  split at h
  ·rename_i hc
   cases h
   obtain ⟨b1,l1,c1,rfl,q1,q2,q3,q4,q5⟩:=lenR_ok g hc hx
   obtain ⟨l,hl,hrd⟩:=reads_of q4 q5
   rw [hP]
   refine (clone_any w.heap.size b1 l1 c1 l w hrd (Nat.le_refl _) (by omega) (by omega) (by omega)).mono fun e w' he=>?_
   obtain ⟨v,rfl,hb,hn⟩:=he
   obtain ⟨E',hle,hR,hG⟩:=g.newRow (g.below hb) hn
   exact ⟨_,List.mem_cons_self,E',_,hle,rfl,hR,hG⟩
  ·cases h
 ·cases h
theorem modO_mem (st:SE.St):∀ (n:Nat) (i:Nat),i<n→(N (Int.ofNat i),st)∈modO st n
 | 0,i,h=>absurd h (Nat.not_lt_zero _)
 | n+1,i,h=>by
  simp only [modO]
  by_cases e:i=n
  ·subst e; exact List.mem_cons_self
  ·exact List.mem_cons_of_mem _ (modO_mem st n i (by omega))
theorem k_mod (hP:X.P=Tryz.prog):KOne X 27 kMod:=by
 intro own0 w0 args st out h E w vals g hr
 unfold kMod at h
 split at h
 ·rename_i x m
  obtain ⟨u,v,e,hu,hv⟩:=RL2 hr
  rw [arr_of e]
  split at h
  ·rename_i k hk
   obtain ⟨kk,rfl⟩:=cstN_ok g hk hv
   simp only [cond_eq_ite,Bool.and_eq_true,fN_eq] at h
   split at h
   ·rename_i hc
    obtain ⟨h1,h2,h3,h4⟩:=hc
    have h3:=Nat.le_of_ble_eq_true h3
    have h4:=Nat.le_of_ble_eq_true h4
    obtain ⟨a,rfl⟩:=isI_ok h1 hu
    obtain ⟨b,hb⟩:=isI_ok h2 hv
    simp only [i64,Value.int.injEq] at hb
    obtain ⟨rfl,_⟩:=hb
    rw [hP]
    refine (mod_any a k w (by omega)).mono fun e w' he=>?_
    obtain ⟨rfl,z,rfl,z1,z2⟩:=he
    split at h
    ·cases h
     obtain ⟨n,rfl⟩:=Int.eq_ofNat_of_zero_le z1
     exact ⟨_,modO_mem st k n (by omega),E,_,Env.le_refl E,rfl,RN E n,g⟩
    ·cases h
     have hz:z≤Int.ofNat (k - 1):=by simp only [Int.ofNat_eq_natCast]; omega
     exact ⟨_,List.mem_cons_self,E.upd st.nid (.z z),_,Env.le_upd (x:=EV.z z) g.nid_none,rfl,by simp [R,SIok,A,Env.upd,i64],g.atom z1 hz⟩
   ·cases h
  ·cases h
 ·cases h
theorem kFit_ok (hP:X.P=Tryz.prog):KAll X kFit:=⟨k_keyB hP,k_mod hP,trivial⟩
theorem kNew_ok (hP:X.P=Tryz.prog):KAll X kNew:=⟨k_cloneB hP,trivial⟩
theorem chk_0:chkR 0=true:=by decide +kernel
theorem chk_1:chkR 1=true:=by decide +kernel
theorem chk_2:chkR 2=true:=by decide +kernel
theorem chk_3:chkR 3=true:=by decide +kernel
theorem chk_4:chkR 4=true:=by decide +kernel
theorem chk_5:chkR 5=true:=by decide +kernel
theorem chk_6:chkR 6=true:=by decide +kernel
theorem chk_7:chkR 7=true:=by decide +kernel
theorem chk_8:chkR 8=true:=by decide +kernel
theorem chk_9:chkR 9=true:=by decide +kernel
theorem chk_10:chkR 10=true:=by decide +kernel
noncomputable def chkZ:Bool:=atFits 210000 118 [] chkQ (exec (TL kNew (fun _=>false) false) 60 (chkC 11) (tmL 118 (chkB 11).sl,(chkB 11).S))
theorem chk_11:chkZ=true:=by decide +kernel
theorem chk_top:chkTop=true:=by decide +kernel
noncomputable def condO':Code→Operand
 | .cond c _ _=>c
 | _=>.tmp 0
theorem chkC_0:chkC 0=.seq (nthC 0 (chkC 0)) (.cond (condO' (tailC 1 (chkC 0))) (thenC (tailC 1 (chkC 0))) (chkC 1)):=by kernel_rfl
theorem chkC_1:chkC 1=.seq (nthC 0 (chkC 1)) (.cond (condO' (tailC 1 (chkC 1))) (thenC (tailC 1 (chkC 1))) (chkC 2)):=by kernel_rfl
theorem chkC_2:chkC 2=.seq (nthC 0 (chkC 2)) (.cond (condO' (tailC 1 (chkC 2))) (thenC (tailC 1 (chkC 2))) (chkC 3)):=by kernel_rfl
theorem chkC_3:chkC 3=.seq (nthC 0 (chkC 3)) (.cond (condO' (tailC 1 (chkC 3))) (thenC (tailC 1 (chkC 3))) (chkC 4)):=by kernel_rfl
theorem chkC_4:chkC 4=.seq (nthC 0 (chkC 4)) (.cond (condO' (tailC 1 (chkC 4))) (thenC (tailC 1 (chkC 4))) (chkC 5)):=by kernel_rfl
theorem chkC_5:chkC 5=.seq (nthC 0 (chkC 5)) (.cond (condO' (tailC 1 (chkC 5))) (thenC (tailC 1 (chkC 5))) (chkC 6)):=by kernel_rfl
theorem chkC_6:chkC 6=.seq (nthC 0 (chkC 6)) (.cond (condO' (tailC 1 (chkC 6))) (thenC (tailC 1 (chkC 6))) (chkC 7)):=by kernel_rfl
theorem chkC_7:chkC 7=.seq (nthC 0 (chkC 7)) (.cond (condO' (tailC 1 (chkC 7))) (thenC (tailC 1 (chkC 7))) (chkC 8)):=by kernel_rfl
theorem chkC_8:chkC 8=.seq (nthC 0 (chkC 8)) (.cond (condO' (tailC 1 (chkC 8))) (thenC (tailC 1 (chkC 8))) (chkC 9)):=by kernel_rfl
theorem chkC_9:chkC 9=.seq (nthC 0 (chkC 9)) (.cond (condO' (tailC 1 (chkC 9))) (thenC (tailC 1 (chkC 9))) (chkC 10)):=by kernel_rfl
theorem chkC_10:chkC 10=.seq (nthC 0 (chkC 10)) (.cond (condO' (tailC 1 (chkC 10))) (thenC (tailC 1 (chkC 10))) (chkC 11)):=by kernel_rfl
theorem hk_of {c a x y D:Code} {o:Operand} (h:c=.seq a (.cond o x y)) (hD:y=D):hkAt D (.seq .run (.cond .run .hook)) c:=by
 subst h
 exact ⟨trivial,trivial,hD⟩
abbrev ChkP (pc:Array Value) (k:Nat):Prop:=PartOk (Xc pc) 118 (chkC k) (chkB k).sl (chkB k).S chkQ
theorem chk_step (hp:PolFit pc) {k:Nat} {a x:Code} {o:Operand} (hc:chkC k=.seq a (.cond o x (chkC (k+1)))) (e:chkR k=true) (h:ChkP pc (k+1)):ChkP pc k :=
 partK hp (kNew_ok rfl) (b:=chkB (k+1)) h (hk_of hc rfl) e
theorem chk_last (hp:PolFit pc):ChkP pc 11:=partL hp (kNew_ok rfl) chk_11
theorem chk_all (hp:PolFit pc):ChkP pc 0 :=
 chk_step hp chkC_0 chk_0 <| chk_step hp chkC_1 chk_1 <| chk_step hp chkC_2 chk_2 <| chk_step hp chkC_3 chk_3 <| chk_step hp chkC_4 chk_4 <| chk_step hp chkC_5 chk_5 <|
 chk_step hp chkC_6 chk_6 <| chk_step hp chkC_7 chk_7 <| chk_step hp chkC_8 chk_8 <| chk_step hp chkC_9 chk_9 <| chk_step hp chkC_10 chk_10 <| chk_last hp
theorem code41:codeOf 41=.seq (nthC 0 (codeOf 41)) (.seq (.block 0 (chkC 0)) (tailC 2 (codeOf 41))):=by kernel_rfl
theorem body41:Tryz.f41.body=some (codeOf 41):=by kernel_rfl
theorem chk_part (hp:PolFit pc):PartOk (Xc pc) 118 (codeOf 41) [(0,.agg polCells)] chkS0 chkF :=
 partK hp (kNew_ok rfl) (b:=chkB 0) (chk_all hp) (by rw [code41]; exact ⟨trivial,rfl,trivial⟩) chk_top
theorem sm_partR {X:Px} (hX:X.P=Tryz.prog) {gi t:Nat} {fn:Func} {c:Code} {args:List SV} {S:SE.St} {ps:List At} {outs:Out} (hf:Tryz.prog.funcs[gi]?=some fn) (hb:fn.body=some c) (hr:fn.results=#[.tmp t]) (hn:nodupO outs=true)
  (h:∀ own0 w0 E w (a:Act) (Q:Exit→Act→World→Prop),G X own0 w0 E S w→FOk E (fill2 0 args (mkT fn.ntmps 10 1 0)) a→(∀ p∈ps,∀ E' (a':Act) w',E.le E'→G X own0 w0 E' p.S w'→FOk E' (tmL fn.ntmps p.sl) a'→Q (exitOf p.x) a' w')→c.wp X.P Q a w)
  (ho:∀ p∈ps,(p.x=.n∨p.x=.r)∧((tmL fn.ntmps p.sl).get t,p.S)∈outs):SmOk X gi ⟨S,args,outs⟩:=by
 refine ⟨nodupO_ok hn,fun own0 w0 E w vals g hrl=>?_⟩
 refine calls_of_wp (by rw [hX]; exact hf) hb (h own0 w0 E w _ _ g (FOk.start hrl fn.ntmps) fun p hp E' a' w' hle g' f'=>?_)
 obtain ⟨hx,hm⟩:=ho p hp
 have hfin:∃ v,(results fn a'.tmps).run X.P w'=.ok v w'∧Outs X own0 w0 E outs (.returned v) w' :=
  ⟨_,results_tmp hr _ _ _,⟨_,hm,E',_,hle,rfl,f'.slot t,g'⟩⟩
 rcases hx with hx | hx <;> rw [hx]
 ·exact ⟨f'.defers,hfin⟩
 ·exact ⟨f'.defers,hfin⟩
theorem tm41:tmL 118 [(0,.agg polCells)]=fill2 0 [.agg polCells] (mkT 118 10 1 0):=by
 simp only [tmL,setK_eq,fill2]
theorem chk_n:nodupO chkM.outs=true:=by decide +kernel
theorem chk_slots:(chkF.map fun p=>(tmL 118 p.sl).get 2)=[U 1 50,N 0]:=by kernel_rfl
theorem chk_sm (hp:PolFit pc):SmOk (Xc pc) 41 chkM:=by
 have hs:=chk_slots
 simp only [chkF,List.map_cons,List.map_nil,List.cons.injEq,and_true] at hs
 refine sm_partR (fn:=Tryz.f41) (t:=2) (ps:=chkF) rfl Tryz.func41 body41 rfl chk_n (fun own0 w0 E w a Q g f h=>chk_part hp own0 w0 E w a Q g (by rw [tm41]; exact f) h) fun p hp'=>?_
 simp only [chkF,List.mem_cons,List.not_mem_nil,or_false] at hp'
 rcases hp' with rfl | rfl
 ·refine ⟨.inr rfl,?_⟩
  have:=hs.1
  show (((tmL 118 [(2,U 1 50)]).get 2,chkE):SV×SE.St)∈_
  rw [this]
  exact List.mem_cons_self
 ·refine ⟨.inr rfl,?_⟩
  have:=hs.2
  show (((tmL 118 [(2,N 0)]).get 2,chkE):SV×SE.St)∈_
  rw [this]
  exact List.mem_cons_of_mem _ List.mem_cons_self
theorem kNew2_ok (hp:PolFit pc):KAll (Xc pc) kNew2:=⟨kSmL hp (chk_sm hp) [] true,k_cloneB rfl,trivial⟩
theorem new_r:newR=true:=by decide +kernel
theorem new_sm (hp:PolFit pc):SmOk (Xc pc) 17 newM:=smL (ks:=kNew2) (jn:=fun _=>false) (nb:=false) (L:=1000000) (fuel:=60) (named:=namedC) hp (kNew2_ok hp) new_r
theorem fit_r:fitRun=true:=by decide +kernel
end SE
end
section
namespace SE
open Go.RowKit
variable {X:Px} {own0:Nat→Prop} {w0 w w':World} {E:Env} {st:SE.St} {pc:Array Value}
structure PolR (w:World) (vs:List Value):Prop where
 len:vs.length=56
 int:∀ p∈newS.tab,∃ z,vs[p.1 - 100]?=some (i64 z)∧p.2.1≤z∧z≤p.2.2
 key:∀ i,i<4→∃ base ln c,vs[5+i]?=some (.slice base ln c)∧1≤ln∧ln≤64∧ln≤c∧ByteRow w base ln∧∀ x,base=some x→x.block<w.heap.size
 perm:∀ s:Nat,s<5→∃ i,i<5∧vs[i]?=some (i64 s)
theorem inRg_ok (g:G X own0 w0 E st w):∀ {l:List SV} {rs:List (Int×Int)} {vs:List Value},inRg st l rs=true→RL E l vs→vs.length=rs.length∧∀ (i:Nat) (r:Int×Int),rs[i]?=some r→∃ z,vs[i]?=some (i64 z)∧r.1≤z∧z≤r.2
 | [],[],vs,h,hr=>by
  rw [RL_nil.1 hr]
  exact ⟨rfl,fun i r h=>by simp at h⟩
 | v::l,(a,b)::m,vs,h,hr=>by
  simp only [inRg,Bool.and_eq_true] at h
  simp only [RL] at hr
  obtain ⟨x,us,rfl,hx,hl⟩:=hr
  obtain ⟨h1,h2⟩:=inRg_ok g h.2 hl
  obtain ⟨z,rfl,z1,z2⟩:=isIn_ok g h.1 hx
  refine ⟨by simp [h1],fun i r hi=>?_⟩
  cases i with
  | zero=>simp at hi; subst hi; exact ⟨z,by simp,z1,z2⟩
  | succ i=>simp at hi; simpa using h2 i r hi
 | [],_::_,vs,h,hr=>by simp [inRg] at h
 | _::_,[],vs,h,hr=>by simp [inRg] at h
theorem hasC_ok {n:Int}:∀ {l:List SV} {vs:List Value},hasC l n=true→RL E l vs→∃ i:Nat,i<l.length∧vs[i]?=some (i64 n)
 | [],vs,h,hr=>by simp [hasC] at h
 | x::l,vs,h,hr=>by
  simp only [RL] at hr
  obtain ⟨v,us,rfl,hx,hl⟩:=hr
  unfold hasC at h
  split at h
  ·cases h
  ·rename_i heq
   simp only [List.cons.injEq] at heq
   obtain ⟨rfl,rfl⟩:=heq
   simp only [Bool.or_eq_true,Bool.and_eq_true,decide_eq_true_eq] at h
   rcases h with ⟨h1,h2⟩ | h
   ·exact ⟨0,by simp,by rw [intc hx h1 h2]; rfl⟩
   ·obtain ⟨i,i1,i2⟩:=hasC_ok h hl
    exact ⟨i+1,by simpa using i1,by simpa using i2⟩
  ·rename_i heq
   simp only [List.cons.injEq] at heq
   obtain ⟨rfl,rfl⟩:=heq
   obtain ⟨i,i1,i2⟩:=hasC_ok h hl
   exact ⟨i+1,by simpa using i1,by simpa using i2⟩
theorem fitR_len:fitR.length=47:=by decide +kernel
theorem key_of (g:G X own0 w0 E st w) {x:SV} {u:Value} (h:lenR st x 1 64=true) (hr:R E x u):∃ base ln c,u=.slice base ln c∧1≤ln∧ln≤64∧ln≤c∧ByteRow w base ln∧∀ x,base=some x→x.block<w.heap.size:=by
 obtain ⟨base,ln,c,rfl,h1,h2,h3,h4,h5⟩:=lenR_ok g h hr
 exact ⟨base,ln,c,rfl,by omega,by omega,h3,h4,h5⟩
theorem fitO_ok (g:G X own0 w0 E st w) {x:SV} {v:Value} (h:fitO (x,st)=true) (hr:R E x v):∃ pc:Array Value,v=.agg pc∧PolR w pc.toList:=by
 unfold fitO at h
 split at h
 ·rename_i o a b c d e k1 k2 k3 k4 l hv
  simp only at hv
  subst hv
  simp only [Bool.and_eq_true] at h
  obtain ⟨⟨⟨ha,hb,hc,hd,he⟩,c0,c1,c2,c3,c4⟩,q1,q2,q3,q4,hl⟩:=h
  simp only [R] at hr
  obtain ⟨cs,rfl,hr⟩:=hr
  refine ⟨cs,rfl,?_⟩
  obtain ⟨vs,hvs⟩:∃ vs,vs=cs.toList:=⟨_,rfl⟩
  rw [← hvs] at hr ⊢
  simp only [RL] at hr
  obtain ⟨va,_,rfl,ra,vb,_,rfl,rb,vc,_,rfl,rc,vd,_,rfl,rd,ve,_,rfl,re,u1,_,rfl,r1,u2,_,rfl,r2,u3,_,rfl,r3,u4,us,rfl,r4,rl⟩:=hr
  have h5:RL E [a,b,c,d,e] [va,vb,vc,vd,ve]:=RL_cons.2 ⟨ra,RL_cons.2 ⟨rb,RL_cons.2 ⟨rc,RL_cons.2 ⟨rd,RL_cons.2 ⟨re,by simp [RL]⟩⟩⟩⟩⟩
  obtain ⟨hlen,hin⟩:=inRg_ok g hl rl
  obtain ⟨za,rfl,a1,a2⟩:=isIn_ok g ha ra
  obtain ⟨zb,rfl,b1,b2⟩:=isIn_ok g hb rb
  obtain ⟨zc,rfl,c1',c2'⟩:=isIn_ok g hc rc
  obtain ⟨zd,rfl,d1,d2⟩:=isIn_ok g hd rd
  obtain ⟨ze,rfl,e1,e2⟩:=isIn_ok g he re
  have five:∀ {n:Int},hasC [a,b,c,d,e] n=true→∃ i:Nat,i<5∧(i64 za::i64 zb::i64 zc::i64 zd::i64 ze::u1::u2::u3::u4::us)[i]?=some (i64 n):=fun {n} hn=>by
   obtain ⟨i,i1,i2⟩:=hasC_ok hn h5
   simp only [List.length_cons,List.length_nil] at i1
   refine ⟨i,by omega,?_⟩
   rw [← i2]
   match i,i1 with
   | 0,_=>rfl
   | 1,_=>rfl
   | 2,_=>rfl
   | 3,_=>rfl
   | 4,_=>rfl
  refine ⟨by simp [hlen,fitR_len],fun p hp=>?_,fun i hi=>?_,fun s hs=>?_⟩
  ·simp only [newS,List.mem_append,List.mem_cons,List.not_mem_nil,or_false] at hp
   rcases hp with (rfl | rfl | rfl | rfl | rfl) | hp
   ·exact ⟨za,rfl,a1,a2⟩
   ·exact ⟨zb,rfl,b1,b2⟩
   ·exact ⟨zc,rfl,c1',c2'⟩
   ·exact ⟨zd,rfl,d1,d2⟩
   ·exact ⟨ze,rfl,e1,e2⟩
   ·simp only [pol9,List.mem_map,List.mem_range] at hp
    obtain ⟨i,hi,rfl⟩:=hp
    have hg:fitR[i]?=some (fitR.getD i (0,0)):=by
     rw [List.getD_eq_getElem?_getD,List.getElem?_eq_getElem (by rw [fitR_len]; exact hi)]
     rfl
    obtain ⟨z,z1,z2,z3⟩:=hin i _ hg
    refine ⟨z,?_,z2,z3⟩
    show _[109+i - 100]?=_
    rw [show 109+i - 100=i+1+1+1+1+1+1+1+1+1 by omega]
    simpa only [List.getElem?_cons_succ] using z1
  ·match i,hi with
   | 0,_=>obtain ⟨x,y,z,e,q⟩:=key_of g q1 r1; exact ⟨x,y,z,by rw [e]; rfl,q⟩
   | 1,_=>obtain ⟨x,y,z,e,q⟩:=key_of g q2 r2; exact ⟨x,y,z,by rw [e]; rfl,q⟩
   | 2,_=>obtain ⟨x,y,z,e,q⟩:=key_of g q3 r3; exact ⟨x,y,z,by rw [e]; rfl,q⟩
   | 3,_=>obtain ⟨x,y,z,e,q⟩:=key_of g q4 r4; exact ⟨x,y,z,by rw [e]; rfl,q⟩
  ·match s,hs with
   | 0,_=>exact five c0
   | 1,_=>exact five c1
   | 2,_=>exact five c2
   | 3,_=>exact five c3
   | 4,_=>exact five c4
 ·cases h
def polC (i:Nat):SV:=bif Nat.blt i 5||Nat.ble 9 i then A (100+i) else .sl (16+i)
theorem polCells_eq:polCells=(List.range 56).map polC:=by kernel_rfl
def rgB (i:Nat) (lo hi:Int):Bool :=
 match lk newS.tab (100+i) with
 | some (a,b)=>decide (lo≤a)&&decide (b≤hi)
 | none=>false
theorem PolR.rg {vs:List Value} (h:PolR w vs) {i:Nat} {lo hi:Int} (e:rgB i lo hi=true):∃ z,vs[i]?=some (i64 z)∧lo≤z∧z≤hi:=by
 unfold rgB at e
 split at e
 ·rename_i a b hl
  simp only [Bool.and_eq_true,decide_eq_true_eq] at e
  obtain ⟨z,z1,z2,z3⟩:=h.int _ (lk_mem hl)
  refine ⟨z,?_,by simp only at z2; omega,by simp only at z3; omega⟩
  have:100+i - 100=i:=by omega
  simpa only [this] using z1
 ·cases e
theorem PolR.pI (h:PolR w pc.toList) {i:Nat} {lo hi:Int} (e:rgB i lo hi=true):pc[i]?=some (i64 (pI pc i))∧lo≤Proofs.YtdgejnakakjgfaaGreatDoor.pI pc i∧Proofs.YtdgejnakakjgfaaGreatDoor.pI pc i≤hi:=by
 obtain ⟨z,z1,z2,z3⟩:=h.rg e
 have z1':pc[i]?=some (.int .i64 z):=by simpa [i64] using z1
 have:Proofs.YtdgejnakakjgfaaGreatDoor.pI pc i=z:=by simp only [Proofs.YtdgejnakakjgfaaGreatDoor.pI,z1']
 rw [this]
 exact ⟨z1',z2,z3⟩
theorem rg_all:(List.range 56).all (fun i=>!(Nat.blt i 5||Nat.ble 9 i)||rgB i (-9223372036854775808) 9223372036854775807)=true:=by decide +kernel
theorem rg_set:(List.range 30).all (fun i=>rgB (9+i) 0 31)=true:=by decide +kernel
theorem rg_most:(List.range 4).all (fun i=>rgB (50+i) 0 1000)=true:=by decide +kernel
theorem rg_rate:rgB 54 1 1000=true:=by decide +kernel
theorem allRg {n:Nat} {f:Nat→Bool} (h:(List.range n).all f=true) {i:Nat} (hi:i<n):f i=true:=List.all_eq_true.1 h i (List.mem_range.2 hi)
theorem PolR.ok (h:PolR w pc.toList):PolOk pc:=by
 refine ⟨by simpa using h.len,fun i hi hk=>?_⟩
 have:=allRg rg_all hi
 have hb:(Nat.blt i 5||Nat.ble 9 i)=true:=by
  rcases hk with hk | hk
  ·have:Nat.blt i 5=true:=by simp [Nat.blt,Nat.ble_eq]; omega
   rw [this]; rfl
  ·have:Nat.ble 9 i=true:=Nat.ble_eq_true_of_le hk
   rw [this]; simp
 rw [hb] at this
 exact (h.pI (by simpa using this)).1
theorem PolR.fit (h:PolR w pc.toList):PolFit pc:=by
 have set:∀ j,j<30→∃ m:Nat,m<32∧Proofs.YtdgejnakakjgfaaGreatDoor.pI pc (9+j)=m:=fun j hj=>by
  obtain ⟨_,h1,h2⟩:=h.pI (allRg rg_set hj)
  exact ⟨(Proofs.YtdgejnakakjgfaaGreatDoor.pI pc (9+j)).toNat,by omega,by omega⟩
 refine ⟨h.ok,⟨fun s hs=>set s (by omega),fun j hj=>?_,fun j hj=>?_⟩,fun c hc=>(h.pI (allRg rg_most hc)).2,(h.pI rg_rate).2,fun s hs=>?_⟩
 ·have:=set (5+j) (by omega)
  rwa [show 9+(5+j)=14+j by omega] at this
 ·have:=set (25+j) (by omega)
  rwa [show 9+(25+j)=34+j by omega] at this
 ·obtain ⟨i,i1,i2⟩:=h.perm s hs
  refine ⟨i,i1,?_⟩
  have i2':pc[i]?=some (.int .i64 s):=by simpa [i64] using i2
  simp only [Proofs.YtdgejnakakjgfaaGreatDoor.pI,i2']
theorem RL_get:∀ {l:List SV} {vs:List Value},l.length=vs.length→(∀ (i:Nat) c v,l[i]?=some c→vs[i]?=some v→R E c v)→RL E l vs
 | [],[],_,_=>by simp [RL]
 | c::l,v::vs,hl,h=>RL_cons.2 ⟨h 0 c v rfl rfl,RL_get (by simpa using hl) fun i c v h1 h2=>h (i+1) c v (by simpa using h1) (by simpa using h2)⟩
 | [],_::_,hl,_=>by simp at hl
 | _::_,[],hl,_=>by simp at hl
theorem RL_range {n:Nat} {f:Nat→SV} {vs:List Value} (hl:vs.length=n) (h:∀ i,i<n→∃ v,vs[i]?=some v∧R E (f i) v):RL E ((List.range n).map f) vs:=by
 refine RL_get (by simp [hl]) fun i c v h1 h2=>?_
 rw [List.getElem?_map,Option.map_eq_some_iff] at h1
 obtain ⟨k,hk,rfl⟩:=h1
 obtain ⟨hi,hk⟩:=List.getElem?_eq_some_iff.1 hk
 simp at hi hk
 subst hk
 obtain ⟨u,u1,u2⟩:=h i hi
 rw [u1] at h2
 cases h2
 exact u2
def isK (i:Nat):Bool:=Nat.blt i 5||Nat.ble 9 i
theorem isK_ok {i:Nat} (h:isK i=true):i<5∨9≤i:=by
 simp only [isK,Bool.or_eq_true] at h
 rcases h with h | h
 ·left; simp [Nat.blt] at h; omega
 ·exact .inr (Nat.le_of_ble_eq_true h)
theorem isK_no {i:Nat} (h:isK i=false):5≤i∧i<9:=by
 simp only [isK,Bool.or_eq_false_iff] at h
 obtain ⟨h1,h2⟩:=h
 constructor
 ·have:¬ i<5:=fun hh=>by
   have:Nat.blt i 5=true:=by simp [Nat.blt]; omega
   rw [this] at h1; cases h1
  omega
 ·have:¬ 9≤i:=fun hh=>by
   rw [Nat.ble_eq_true_of_le hh] at h2; cases h2
  omega
def EW (pc:Array Value):Env:=fun id =>
 bif Nat.ble 300 id then none
 else bif Nat.ble 21 id&&Nat.ble id 24 then (match pc[id - 16]? with | some (.slice b l c)=>some (.sl b l c) | _=>none)
 else bif Nat.ble 100 id then some (.z (Proofs.YtdgejnakakjgfaaGreatDoor.pI pc (id - 100))) else none
theorem newS_rg:newS.tab.all (fun p=>Nat.ble 100 p.1&&Nat.ble p.1 155&&rgB (p.1 - 100) p.2.1 p.2.2)=true:=by decide +kernel
theorem EW_z {i:Nat} (h1:i<156):EW pc (100+i)=some (.z (Proofs.YtdgejnakakjgfaaGreatDoor.pI pc i)):=by
 have a:Nat.ble 300 (100+i)=false:=by
  cases h:Nat.ble 300 (100+i) with
  | false=>rfl
  | true=>have:=Nat.le_of_ble_eq_true h; omega
 have b:Nat.ble (100+i) 24=false:=by
  cases h:Nat.ble (100+i) 24 with
  | false=>rfl
  | true=>have:=Nat.le_of_ble_eq_true h; omega
 have c:Nat.ble 100 (100+i)=true:=Nat.ble_eq_true_of_le (by omega)
 have d:100+i - 100=i:=by omega
 simp only [EW,a,b,c,d,cond_false,cond_true,Bool.and_false]
theorem EW_k (h:PolR w pc.toList) {i:Nat} (hi:i<4):∃ base ln c,pc[5+i]?=some (.slice base ln c)∧EW pc (21+i)=some (.sl base ln c)∧1≤ln∧ln≤64∧ln≤c∧ByteRow w base ln∧∀ x,base=some x→x.block<w.heap.size:=by
 obtain ⟨base,ln,c,q,q1⟩:=h.key i hi
 have q':pc[5+i]?=some (.slice base ln c):=by simpa using q
 refine ⟨base,ln,c,q',?_,q1⟩
 have a:Nat.ble 300 (21+i)=false:=by
  cases h:Nat.ble 300 (21+i) with
  | false=>rfl
  | true=>have:=Nat.le_of_ble_eq_true h; omega
 have b:Nat.ble (21+i) 24=true:=Nat.ble_eq_true_of_le (by omega)
 have c':Nat.ble 21 (21+i)=true:=Nat.ble_eq_true_of_le (by omega)
 have d:21+i - 16=5+i:=by omega
 simp only [EW,a,b,c',d,cond_false,cond_true,Bool.and_true,q']
theorem EW_pol (h:PolR w pc.toList):RL (EW pc) polCells pc.toList:=by
 rw [polCells_eq]
 refine RL_range h.len fun i hi=>?_
 unfold polC
 cases hk:(Nat.blt i 5||Nat.ble 9 i) with
 | true =>
  have:=h.ok.2 i hi (isK_ok hk)
  refine ⟨_,by simpa using this,?_⟩
  simp [R,SIok,A,EW_z (show i<156 by omega)]
 | false =>
  obtain ⟨k1,k2⟩:=isK_no hk
  obtain ⟨base,ln,c,q1,q2,_⟩:=EW_k h (i:=i - 5) (by omega)
  rw [show 5+(i - 5)=i by omega] at q1
  rw [show 21+(i - 5)=16+i by omega] at q2
  refine ⟨_,by simpa using q1,?_⟩
  simp [R,q2]
theorem EW_G (hw:GlW w) (hX:X.T.gl=glT) (h:PolR w pc.toList):G X (fun _=>False) w (EW pc) newS w:=by
 refine ⟨Nat.le_refl _,rfl,rfl,rfl,fun n _ _=>rfl,fun id blk hl=>(by simp [newS,lk] at hl),fun id id' b b' n hl=>(by simp [newS,lk] at hl),fun id lo hi hl=>?_,fun id i hl=>?_,fun id hid=>?_,fun g cs hg=>?_,fun x hx=>(by cases hx)⟩
 ·have hm:=List.all_eq_true.1 newS_rg _ (lk_mem hl)
  simp only [Bool.and_eq_true] at hm
  obtain ⟨⟨h1,h2⟩,h3⟩:=hm
  have h1:=Nat.le_of_ble_eq_true h1
  have h2:=Nat.le_of_ble_eq_true h2
  obtain ⟨_,z1,z2⟩:=h.pI h3
  have:=EW_z (pc:=pc) (i:=id - 100) (by omega)
  rw [show 100+(id - 100)=id by omega] at this
  exact ⟨_,this,z1,z2⟩
 ·have key:∀ j,j<4→SlOk X (EW pc) newS w (21+j) (.bytes (.r 1 64)):=fun j hj=>by
   obtain ⟨base,ln,c,q1,q2,q3,q4,q5,q6,q7⟩:=EW_k h hj
   exact ⟨base,ln,c,q2,by simp only [SIok]; omega,q5,q6,fun x hx=>⟨q7 x hx,fun bid blk hb=>by simp [newS,lk] at hb⟩⟩
  have hm:=lk_mem hl
  simp only [newS,List.mem_cons,List.not_mem_nil,or_false,Prod.mk.injEq] at hm
  rcases hm with ⟨rfl,rfl⟩ | ⟨rfl,rfl⟩ | ⟨rfl,rfl⟩ | ⟨rfl,rfl⟩
  ·exact key 0 (by omega)
  ·exact key 1 (by omega)
  ·exact key 2 (by omega)
  ·exact key 3 (by omega)
 ·have:Nat.ble 300 id=true:=Nat.ble_eq_true_of_le hid
  simp only [EW,this,cond_true]
 ·rw [hX] at hg
  obtain ⟨h1,vs,e,fr,h2,h3⟩:=hw g cs hg
  exact ⟨h1,fun id blk hl=>(by simp [newS,lk] at hl),vs,e,fr,h2,clL_ok (glT_cl g cs hg) h3⟩
structure PolA (w:World) (ps:Array Value):Prop where
 len:ps.size=56
 int:∀ i,i<56→(i<5∨9≤i)→∃ z,ps[i]?=some (i64 z)∧-9223372036854775808≤z∧z≤9223372036854775807
 key:∀ i,i<4→∃ base ln c,ps[5+i]?=some (.slice base ln c)∧Int.ofNat ln≤9223372036854775807∧ln≤c∧ByteRow w base ln∧∀ x,base=some x→x.block<w.heap.size
def fitC (i:Nat):SV:=bif isK i then I64 else .sl (i - 4)
theorem fitA_eq:fitA=(List.range 56).map fitC:=by kernel_rfl
def EF (pc:Array Value):Env:=fun id =>
 bif Nat.ble 1 id&&Nat.ble id 4 then (match pc[id+4]? with | some (.slice b l c)=>some (.sl b l c) | _=>none) else none
theorem EF_k (h:PolA w pc) {i:Nat} (hi:i<4):∃ base ln c,pc[5+i]?=some (.slice base ln c)∧EF pc (1+i)=some (.sl base ln c)∧Int.ofNat ln≤9223372036854775807∧ln≤c∧ByteRow w base ln∧∀ x,base=some x→x.block<w.heap.size:=by
 obtain ⟨base,ln,c,q,q1⟩:=h.key i hi
 refine ⟨base,ln,c,q,?_,q1⟩
 have b:Nat.ble (1+i) 4=true:=Nat.ble_eq_true_of_le (by omega)
 have c':Nat.ble 1 (1+i)=true:=Nat.ble_eq_true_of_le (by omega)
 have d:1+i+4=5+i:=by omega
 simp only [EF,b,c',d,cond_true,Bool.and_true,q]
theorem EF_pol (h:PolA w pc):RL (EF pc) fitA pc.toList:=by
 rw [fitA_eq]
 refine RL_range (by simpa using h.len) fun i hi=>?_
 unfold fitC
 cases hk:isK i with
 | true =>
  obtain ⟨z,z1,z2,z3⟩:=h.int i hi (isK_ok hk)
  refine ⟨_,by simpa using z1,?_⟩
  simp only [cond_true,I64,R,SIok]
  exact ⟨z,⟨z2,z3⟩,rfl⟩
 | false =>
  obtain ⟨k1,k2⟩:=isK_no hk
  obtain ⟨base,ln,c,q1,q2,_⟩:=EF_k h (i:=i - 5) (by omega)
  rw [show 5+(i - 5)=i by omega] at q1
  rw [show 1+(i - 5)=i - 4 by omega] at q2
  refine ⟨_,by simpa using q1,?_⟩
  simp [R,q2]
theorem EF_G (hw:GlW w) (hX:X.T.gl=glT) (h:PolA w pc):G X (fun _=>False) w (EF pc) fitS0 w:=by
 refine ⟨Nat.le_refl _,rfl,rfl,rfl,fun n _ _=>rfl,fun id blk hl=>(by simp [fitS0,lk] at hl),fun id id' b b' n hl=>(by simp [fitS0,lk] at hl),fun id lo hi hl=>(by simp [fitS0,lk] at hl),fun id i hl=>?_,fun id hid=>?_,fun g cs hg=>?_,fun x hx=>(by cases hx)⟩
 ·have key:∀ j,j<4→SlOk X (EF pc) fitS0 w (1+j) (.bytes (.r 0 anyLen)):=fun j hj=>by
   obtain ⟨base,ln,c,q1,q2,q3,q4,q5,q6⟩:=EF_k h hj
   exact ⟨base,ln,c,q2,by simp only [Int.ofNat_eq_natCast] at q3; simp only [SIok,anyLen]; omega,q4,q5,fun x hx=>⟨q6 x hx,fun bid blk hb=>by simp [fitS0,lk] at hb⟩⟩
  have hm:=lk_mem hl
  simp only [fitS0,List.mem_cons,List.not_mem_nil,or_false,Prod.mk.injEq] at hm
  rcases hm with ⟨rfl,rfl⟩ | ⟨rfl,rfl⟩ | ⟨rfl,rfl⟩ | ⟨rfl,rfl⟩
  ·exact key 0 (by omega)
  ·exact key 1 (by omega)
  ·exact key 2 (by omega)
  ·exact key 3 (by omega)
 ·have hid:10≤id:=hid
  have:Nat.ble id 4=false:=by
   cases h:Nat.ble id 4 with
   | false=>rfl
   | true=>have:=Nat.le_of_ble_eq_true h; omega
  simp only [EF,this,Bool.and_false,cond_false]
 ·rw [hX] at hg
  obtain ⟨h1,vs,e,fr,h2,h3⟩:=hw g cs hg
  exact ⟨h1,fun id blk hl=>(by simp [fitS0,lk] at hl),vs,e,fr,h2,clL_ok (glT_cl g cs hg) h3⟩
theorem fit_any (hw:GlW w) {ps:Array Value} (h:PolA w ps):Calls Tryz.prog 16 #[.agg ps] w fun e w'=>Below w.heap.size w w'∧GlW w'∧∃ pc:Array Value,e=.returned (.agg pc)∧PolR w' pc.toList:=by
 have e:=fit_r
 unfold fitRun at e
 cases hrun:run (Xw (kL kFit)).T 60 16 [.agg fitA] fitS0 with
 | none=>rw [hrun] at e; cases e
 | some out =>
  rw [hrun] at e
  refine (run_ok (X:=Xw (kL kFit)) tabw pkw rkw (kok (X:=Xw (kL kFit)) (ks:=kFit) (kFit_ok rfl) rfl _ w) 60 hrun (EF_G hw rfl h) (RL_cons.2 ⟨?_,by simp [RL]⟩)).mono fun e' w' he=>?_
  ·simp only [R]
   exact ⟨ps,rfl,EF_pol h⟩
  ·obtain ⟨o,ho,E',x,h1,rfl,h3,h4⟩:=he
   obtain ⟨pc,rfl,hp⟩:=fitO_ok h4 (allO_ok e o ho) h3
   exact ⟨below_of h4,glW_of h4 rfl,pc,rfl,hp⟩
end SE
end
section
namespace SE
variable {X:Px} {own0:Nat→Prop} {w0 w w':World} {E E':Env} {st st':SE.St}
def ownB (E:Env) (st:SE.St) (n:Nat):Prop:=∃ id blk,lk st.heap id=some blk∧blk.isRo=false∧E id=some (.blk n)
def seesB (X:Px) (E:Env) (st:SE.St) (w0:World) (n:Nat):Prop :=
 n<w0.heap.size∨(∃ id blk,lk st.heap id=some blk∧E id=some (.blk n)) ∨
  (∃ id len a ln cap,lk st.sls id=some (.bytes len)∧E id=some (.sl (some a) ln cap)∧a.block=n)∨∃ cs,X.T.gl n=some cs
theorem G.keep (g:G X own0 w0 E st w) (hsz:w.heap.size≤w'.heap.size) (hs:∀ n,n<w.heap.size→seesB X E st w0 n→w'.heap[n]?=w.heap[n]?) (ho:w'.os=w.os) (ht:w'.tape=w.tape) (hu:w'.output=w.output) :
  G X own0 w0 E st w':=by
 have hsome:∀ {n:Nat} {o:Obj},seesB X E st w0 n→w.heap[n]?=some o→w'.heap[n]?=some o:=fun hn h=>by rw [hs _ (Array.getElem?_eq_some_iff.1 h).1 hn,h]
 refine ⟨Nat.le_trans g.size hsz,ho.trans g.os,ht.trans g.tape,hu.trans g.output,?_,?_,g.inj,g.tab,?_,g.dom,?_,g.facts⟩
 ·intro n hn hown
  rw [hs n (Nat.lt_of_lt_of_le hn g.size) (.inl hn)]
  exact g.frame n hn hown
 ·intro id blk hl
  rcases g.heap id blk hl with ⟨h0,h1,h2⟩ | ⟨n,h1,h2,h3,h4⟩
  ·exact .inl ⟨h0,h1,fun n hn=>⟨Nat.lt_of_lt_of_le (h2 n hn).1 hsz,(h2 n hn).2⟩⟩
  ·refine .inr ⟨n,h1,Nat.lt_of_lt_of_le h2 hsz,h3,?_⟩
   have hb:seesB X E st w0 n:=.inr (.inl ⟨id,blk,hl,h1⟩)
   cases blk with
   | cells e cs=>obtain ⟨vs,k1,k2⟩:=h4; exact ⟨vs,hsome hb k1,k2⟩
   | row e sz sid cs=>obtain ⟨vs,len,cap,k1,k2⟩:=h4; exact ⟨vs,len,cap,hsome hb k1,k2⟩
   | map es=>obtain ⟨ms,c,k1,k2⟩:=h4; exact ⟨ms,c,hsome hb k1,k2⟩
   | opq=>trivial
   | ro e cs=>obtain ⟨vs,k1,k2⟩:=h4; exact ⟨vs,hsome hb k1,k2⟩
   | res nm xs args=>exact h4
 ·intro id i hl
  have h:=g.sls id i hl
  cases i with
  | bytes len =>
   obtain ⟨base,ln,cap,h1,h2,h3,h4,h5⟩:=h
   refine ⟨base,ln,cap,h1,h2,h3,?_,fun x hx=>⟨Nat.lt_of_lt_of_le (h5 x hx).1 hsz,(h5 x hx).2⟩⟩
   cases base with
   | none=>exact h4
   | some p =>
    obtain ⟨k1,vs,e,fr,k2,k3⟩:=h4
    exact ⟨k1,vs,e,fr,hsome (.inr (.inr (.inl ⟨id,len,p,ln,cap,hl,h1,rfl⟩))) k2,k3⟩
  | row b len=>exact h
  | own b nm args =>
   obtain ⟨h0,base,ln,cap,vs,h1,h2,h3,h4⟩:=h
   refine ⟨h0,base,ln,cap,vs,h1,h2,h3,?_⟩
   cases base with
   | none=>exact h4
   | some x =>
    simp only [Option.bind_some] at h4 ⊢
    have hb:=h3 x rfl
    rw [hs _ (g.hown h0 hb).1 (.inr (.inl ⟨b,.opq,h0,hb⟩))]
    exact h4
 ·intro gg cs hg
  obtain ⟨h1,h2,vs,e,fr,h3,h4⟩:=g.gl gg cs hg
  exact ⟨Nat.lt_of_lt_of_le h1 hsz,h2,vs,e,fr,hsome (.inr (.inr (.inr ⟨cs,hg⟩))) h3,h4⟩
theorem G.self (g:G X own0 w0 E st w):G X (ownB E st) w E st w:=by
 refine ⟨Nat.le_refl _,rfl,rfl,rfl,fun _ _ _=>rfl,?_,g.inj,g.tab,g.sls,g.dom,g.gl,g.facts⟩
 intro id blk hl
 rcases g.heap id blk hl with ⟨h0,h1,h2⟩ | ⟨n,h1,h2,h3,h4⟩
 ·exact .inl ⟨h0,h1,fun n hn=>⟨(h2 n hn).1,.inl ⟨id,blk,hl,by rw [h0]; rfl,hn⟩⟩⟩
 ·refine .inr ⟨n,h1,h2,?_,h4⟩
  cases hb:blk.isRo with
  | true=>exact .inl rfl
  | false=>exact .inr (.inl ⟨id,blk,hl,hb,h1⟩)
theorem G.back (g:G X own0 w0 E st w) (g':G X (ownB E st) w E' st' w'):G X own0 w0 E' st' w':=by
 have hown:∀ n,ownB E st n→own0 n∨w0.heap.size≤n:=fun n ⟨id,blk,h1,h2,h3⟩=>by
  rcases (g.hown h1 h3).2 with h | h
  ·rw [h2] at h; cases h
  ·exact h
 have hup:∀ n,ownB E st n∨w.heap.size≤n→own0 n∨w0.heap.size≤n:=fun n h=>by
  rcases h with h | h
  ·exact hown n h
  ·exact .inr (Nat.le_trans g.size h)
 refine ⟨Nat.le_trans g.size g'.size,g'.os.trans g.os,g'.tape.trans g.tape,g'.output.trans g.output,?_,?_,g'.inj,g'.tab,g'.sls,g'.dom,g'.gl,g'.facts⟩
 ·intro n hn hno
  rw [g'.frame n (Nat.lt_of_lt_of_le hn g.size) (fun h=>by
   rcases hown n h with h | h
   ·exact hno h
   ·omega)]
  exact g.frame n hn hno
 ·intro id blk hl
  rcases g'.heap id blk hl with ⟨h0,h1,h2⟩ | ⟨n,h1,h2,h3,h4⟩
  ·exact .inl ⟨h0,h1,fun n hn=>⟨(h2 n hn).1,hup n (h2 n hn).2⟩⟩
  ·refine .inr ⟨n,h1,h2,?_,h4⟩
   rcases h3 with h | h
   ·exact .inl h
   ·exact .inr (hup n h)
theorem SmOk.use {gi:Nat} {m:Sm} (h:SmOk X gi m) (g:G X own0 w0 E m.S w) {vals:Array Value} (hr:RL E m.args vals.toList) :
  Calls X.P gi vals w fun e w'=>∃ o∈m.outs,∃ E' x,E.le E'∧e=.returned x∧R E' o.1 x∧G X own0 w0 E' o.2 w'∧G X (ownB E m.S) w E' o.2 w':=by
 refine (h.2 _ _ E w vals g.self hr).mono fun e w' he=>?_
 obtain ⟨o,ho,E',x,h1,h2,h3,h4⟩:=he
 exact ⟨o,ho,E',x,h1,h2,h3,g.back h4,h4⟩
end SE
end
section
namespace St
open Crc Fr
abbrev It:=Nat×List UInt8
def item (f:Fr.Fd):List It:=if f.kind=2 then [(0,f.body)] else if f.kind=3 then [(f.code,[])] else []
def scan (l:List UInt8):List It×List UInt8 :=
 if h:(Fr.next l).kind=0 then ([],l) else
 (item (Fr.next l)++(scan (l.drop (Fr.next l).size)).1,(scan (l.drop (Fr.next l).size)).2)
termination_by l.length
decreasing_by all_goals (have:=goes_size l h; simp; omega)
theorem scan_wait {l:List UInt8} (h:(Fr.next l).kind=0):scan l=([],l):=by rw [scan,dif_pos h]
theorem scan_step {l:List UInt8} (h:(Fr.next l).kind≠0):scan l=(item (Fr.next l)++(scan (l.drop (Fr.next l).size)).1,(scan (l.drop (Fr.next l).size)).2):=by
 rw [scan,dif_neg h]
theorem scan_nil:scan []=([],[]):=scan_wait rfl
theorem scan_ahead (b:List UInt8):scan b=scan (b.drop (Fr.ahead b)):=by
 match b with
 | []=>rfl
 | c::r =>
  by_cases hc:c=165
  ·rw [show Fr.ahead (c::r)=0 by simp [Fr.ahead,hc],List.drop_zero]
  ·have h:=next_of_head c r hc
   have hk:(Fr.next (c::r)).kind≠0:=by rw [h]; simp [Fr.skip]
   rw [scan_step hk,h]
   simp [Fr.skip,item]
theorem ahead_noise (a b:List UInt8) (h:∀ c∈a,c≠165):Fr.ahead (a++b)=a.length+Fr.ahead b:=by
 induction a with
 | nil=>simp
 | cons c r ih =>
  have hc:c≠165:=h c (by simp)
  have:=ih (fun x hx=>h x (by simp [hx]))
  simp [Fr.ahead,hc,this]; omega
theorem scan_noise (a b:List UInt8) (h:∀ c∈a,c≠165):scan (a++b)=scan b:=by
 rw [scan_ahead (a++b),ahead_noise a b h,scan_ahead b,List.drop_append,List.drop_eq_nil_of_le (by omega)]
 simp
theorem noise_of_ahead (a:List UInt8) (h:Fr.ahead a=a.length):∀ c∈a,c≠165:=by
 induction a with
 | nil=>simp
 | cons c r ih =>
  by_cases hc:c=165
  ·simp [Fr.ahead,hc] at h
  ·simp [Fr.ahead,hc] at h
   intro x hx
   rcases List.mem_cons.1 hx with rfl | hx
   ·exact hc
   ·exact ih h x hx
theorem scan_append_aux (n:Nat):∀ a b:List UInt8,a.length≤n→scan (a++b)=((scan a).1++(scan ((scan a).2++b)).1,(scan ((scan a).2++b)).2):=by
 induction n with
 | zero =>
  intro a b h
  obtain rfl:a=[]:=List.eq_nil_of_length_eq_zero (by omega)
  simp [scan_nil]
 | succ n ih =>
  intro a b h
  by_cases h0:(Fr.next a).kind=0
  ·simp [scan_wait h0]
  ·have hs:=goes_size a h0
   by_cases h1:(Fr.next a).kind=1
   ·obtain ⟨hk,hle,hor⟩:=goes_skip a b h1
    rcases hor with he | he
    ·have hk0:(Fr.next (a++b)).kind≠0:=by omega
     have hi:item (Fr.next (a++b))=[]:=by simp [item,hk]
     have hi':item (Fr.next a)=[]:=by simp [item,h1]
     rw [scan_step hk0,scan_step h0,he,List.drop_append_of_le_length hs.2,ih (a.drop _) b (by simp; omega),hi,hi']
     simp
    ·have hx:=next_skip a h1
     have hn:Fr.ahead a=a.length:=by have:=hx.2.2; rw [this] at he; simpa [Fr.skip] using he
     have hno:=noise_of_ahead a hn
     have e1:scan a=([],[]):=by have:=scan_noise a [] hno; simpa [scan_nil] using this
     rw [scan_noise a b hno,e1]
     simp
   ·have hm:=goes_more a b h0 h1
    have hk0:(Fr.next (a++b)).kind≠0:=by rw [hm]; exact h0
    rw [scan_step hk0,scan_step h0,hm,List.drop_append_of_le_length hs.2,ih (a.drop _) b (by simp; omega)]
    simp
theorem scan_left_aux (n:Nat):∀ l:List UInt8,l.length≤n→(Fr.next (scan l).2).kind=0∧∃ p,l=p++(scan l).2:=by
 induction n with
 | zero =>
  intro l h
  obtain rfl:l=[]:=List.eq_nil_of_length_eq_zero (by omega)
  rw [scan_nil]
  exact ⟨rfl,[],rfl⟩
 | succ n ih =>
  intro l h
  by_cases h0:(Fr.next l).kind=0
  ·rw [scan_wait h0]; exact ⟨h0,[],rfl⟩
  ·have hs:=goes_size l h0
   obtain ⟨h1,p,hp⟩:=ih (l.drop (Fr.next l).size) (by simp; omega)
   rw [scan_step h0]
   refine ⟨h1,l.take (Fr.next l).size++p,?_⟩
   simp only
   rw [List.append_assoc,← hp,List.take_append_drop]
theorem left_wait (l:List UInt8):(Fr.next (scan l).2).kind=0:=(scan_left_aux _ l (Nat.le_refl _)).1
theorem left_suffix (l:List UInt8):∃ p,l=p++(scan l).2:=(scan_left_aux _ l (Nat.le_refl _)).2
theorem left_le (l:List UInt8):(scan l).2.length≤l.length:=by
 obtain ⟨p,hp⟩:=left_suffix l
 have:=congrArg List.length hp
 simp at this; omega
theorem left_drop (l:List UInt8):l.drop (l.length - (scan l).2.length)=(scan l).2:=by
 obtain ⟨p,hp⟩:=left_suffix l
 generalize (scan l).2=r at *
 subst hp
 simp
theorem left_short (l:List UInt8):(scan l).2.length<37:=(goes_wait _ (left_wait l)).2
end St
end
end Go.Proofs.YtdgejnakakjgfaaGreatDoor
