/- Messages: their contract. What a scene tells: contracts, by runs. The queue's line, cell by cell, and back. The queue's line, its own again; the queue's functions by runs. Who waits: the states, the outcomes, the contracts of the queue. A scene: its states; the contracts that its functions use. A session begun: the states, the outcomes. What each link says: its summaries. A run as a summary, where values of several parts are looked at part by part. -/
import Derived.Test.YtdgejnakakjgfaaGreatDoorR16
import Derived.Test.YtdgejnakakjgfaaGreatDoorR10
set_option linter.unusedVariables false
set_option linter.unusedSimpArgs false
set_option maxRecDepth 100000
namespace Go.Proofs.YtdgejnakakjgfaaGreatDoor
section
namespace SE
open Go.RowKit
set_option maxHeartbeats 0
variable {X:Px} {own0:Nat→Prop} {w0 w w':World} {E:Env} {st:SE.St}
theorem RLc12 {E:Env} {a b c d e f g h i j k l:SV} {vs:List Value} (hr:RL E [a,b,c,d,e,f,g,h,i,j,k,l] vs) :
  ∃ v1 v2 v3 v4 v5 v6 v7 v8 v9 v10 v11 v12,vs=[v1,v2,v3,v4,v5,v6,v7,v8,v9,v10,v11,v12]∧R E a v1∧R E b v2∧R E c v3∧R E d v4∧R E e v5∧R E f v6∧R E g v7∧R E h v8∧R E i v9∧R E j v10∧R E k v11∧R E l v12:=by
 have hl:=RL_length hr
 simp only [List.length_cons,List.length_nil] at hl
 match vs,hl with
 | [v1,v2,v3,v4,v5,v6,v7,v8,v9,v10,v11,v12],_ =>
  simp only [RL_cons] at hr
  obtain ⟨h1,h2,h3,h4,h5,h6,h7,h8,h9,h10,h11,h12,_⟩:=hr
  exact ⟨v1,v2,v3,v4,v5,v6,v7,v8,v9,v10,v11,v12,rfl,h1,h2,h3,h4,h5,h6,h7,h8,h9,h10,h11,h12⟩
theorem msgR_ok {n:Nat} (h2:n≤32):∃ a b,msgR a b=true∧a≤n∧n≤b:=by
 by_cases a:n<8
 ·exact ⟨n,n,allN_ok msg_a n (by omega) (by omega),Nat.le_refl _,Nat.le_refl _⟩
 ·by_cases b:n<13
  ·exact ⟨n,n,allN_ok msg_b n (by omega) (by omega),Nat.le_refl _,Nat.le_refl _⟩
  ·by_cases c:n<18
   ·exact ⟨n,n,allN_ok msg_c n (by omega) (by omega),Nat.le_refl _,Nat.le_refl _⟩
   ·exact ⟨_,_,msg_d,by omega,by omega⟩
structure MsgV (v:Value):Prop where
 is:∃ (k s r t e m c x1 x2 x3 x4:Int) (n:Bool),v=.agg #[i64 k,i64 s,i64 r,i64 t,i64 e,i64 m,i64 c,.bool n,i64 x1,i64 x2,i64 x3,i64 x4]∧(1≤k∧k≤11)∧(0≤s∧s≤4294967295)∧(0≤r∧r≤3) ∧
  (0≤t∧t≤4)∧(0≤e∧e≤65535)∧(0≤m∧m≤4)∧(0≤c∧c≤3∧(k=11→1≤c))∧(-32768≤x1∧x1≤32767)∧(-32768≤x2∧x2≤32767)∧(-32768≤x3∧x3≤32767)∧(-32768≤x4∧x4≤32767)
def zeroV:Value:=.agg #[i64 0,i64 0,i64 0,i64 0,i64 0,i64 0,i64 0,.bool false,i64 0,i64 0,i64 0,i64 0]
theorem isB_val {E:Env} {x:SV} {v:Value} (h:isB x=true) (hr:R E x v):∃ b,v=.bool b:=by
 unfold isB at h
 split at h
 ·simp only [R] at hr; exact ⟨_,hr⟩
 ·simp only [R] at hr; exact ⟨_,hr⟩
 ·simp only [R] at hr; exact hr
 ·simp only [R] at hr
  obtain ⟨z,_,rfl⟩:=hr
  exact ⟨_,rfl⟩
 ·cases h
theorem msgC_ok (g:G X own0 w0 E st w) {l:List SV} (h:msgC st l=true) {v:Value} (hr:R E (.agg l) v):MsgV v:=by
 simp only [R] at hr
 obtain ⟨cs,rfl,hl⟩:=hr
 unfold msgC at h
 split at h
 ·rename_i k s r t e m c n x1 x2 x3 x4
  obtain ⟨v1,v2,v3,v4,v5,v6,v7,v8,v9,v10,v11,v12,ev,r1,r2,r3,r4,r5,r6,r7,r8,r9,r10,r11,r12⟩:=RLc12 hl
  simp only [Bool.and_eq_true,Bool.or_eq_true] at h
  obtain ⟨h1,h2,h3,h4,h5,h6,h7,h8,h9,h10,h11,h12⟩:=h
  obtain ⟨z1,rfl,p1⟩:=isIn_ok g h1 r1
  obtain ⟨z2,rfl,p2⟩:=isIn_ok g h2 r2
  obtain ⟨z3,rfl,p3⟩:=isIn_ok g h3 r3
  obtain ⟨z4,rfl,p4⟩:=isIn_ok g h4 r4
  obtain ⟨z5,rfl,p5⟩:=isIn_ok g h5 r5
  obtain ⟨z6,rfl,p6⟩:=isIn_ok g h6 r6
  obtain ⟨b,rfl⟩:=isB_val h8 r8
  obtain ⟨z9,rfl,p9⟩:=isIn_ok g h9 r9
  obtain ⟨z10,rfl,p10⟩:=isIn_ok g h10 r10
  obtain ⟨z11,rfl,p11⟩:=isIn_ok g h11 r11
  obtain ⟨z12,rfl,p12⟩:=isIn_ok g h12 r12
  have h7':∃ z7,v7=i64 z7∧0≤z7∧z7≤3∧(z1=11→1≤z7):=by
   rcases h7 with h7 | ⟨h7,h7'⟩
   ·obtain ⟨z7,e7,p7⟩:=isIn_ok g h7 r7
    exact ⟨z7,e7,by omega,by omega,fun _=>p7.1⟩
   ·obtain ⟨z7,e7,p7⟩:=isIn_ok g h7' r7
    obtain ⟨z1',e1',p1'⟩:=isIn_ok g h7 r1
    have:z1'=z1:=by simpa [i64] using e1'.symm
    exact ⟨z7,e7,by omega,by omega,fun _=>by omega⟩
  obtain ⟨z7,rfl,p7⟩:=h7'
  exact ⟨z1,z2,z3,z4,z5,z6,z7,z9,z10,z11,z12,b,by rw [arr_of ev],p1,p2,p3,p4,p5,p6,p7,p9,p10,p11,p12⟩
 ·cases h
theorem msg_any (hw:GlW w) {base:Option Addr} {ln cap:Nat} (h2:ln≤32) (hc:ln≤cap) (hb:ByteRow w base ln) (hsz:∀ x,base=some x→x.block<w.heap.size) :
  Calls Tryz.prog 101 #[.slice base ln cap] w fun e w'=>Below w.heap.size w w'∧(e=.returned (.tuple #[zeroV,i64 13])∨∃ v,e=.returned (.tuple #[v,i64 0])∧MsgV v):=by
 obtain ⟨a,b,e,ha,hbb⟩:=msgR_ok h2
 obtain ⟨E,r1,g⟩:=g_one (X:=Xb) hw rfl (a:=a) (b:=b) ha hbb hc hb hsz
 unfold msgR at e
 cases hrun:run Xb.T 60 101 [.sl 0] (oneSt a b) with
 | none=>rw [hrun] at e; cases e
 | some out =>
  rw [hrun] at e
  refine (run_ok (X:=Xb) tabb pkb rkb (kb_ok _ w) 60 hrun g (RL_cons.2 ⟨r1,by simp [RL]⟩)).mono fun e' w' he=>?_
  obtain ⟨o,ho,E',x,h1,rfl,h3,h4⟩:=he
  refine ⟨below_of h4,?_⟩
  have hO:=allO_ok e o ho
  unfold msgO at hO
  split at hO
  ·rename_i l p q ev
   rw [ev] at h3
   obtain ⟨x1,x2,rfl,hp,hq⟩:=tup2 h3
   simp only [Bool.or_eq_true,Bool.and_eq_true,decide_eq_true_eq] at hO
   rcases hO with ⟨q1,q2,q3⟩ | ⟨q1,q2,q3⟩
   ·rw [intc hq q1 q2]
    have:l=zeroCells:=SV.beqCs_eq q3
    subst this
    simp only [zeroCells,R] at hp
    obtain ⟨cs,rfl,hl⟩:=hp
    obtain ⟨v1,v2,v3,v4,v5,v6,v7,v8,v9,v10,v11,v12,ev,r1,r2,r3,r4,r5,r6,r7,r8,r9,r10,r11,r12⟩:=RLc12 hl
    have zero:∀ {v:Value},R E' (N 0) v→v=i64 0:=fun {v} h=>intc h rfl rfl
    rw [arr_of ev,zero r1,zero r2,zero r3,zero r4,zero r5,zero r6,zero r7,zero r9,zero r10,zero r11,zero r12]
    simp only [R] at r8
    rw [r8]
    exact .inl rfl
   ·rw [intc hq q1 q2]
    exact .inr ⟨x1,rfl,msgC_ok h4 q3 hp⟩
  ·cases hO
theorem atoms4 (g:G X own0 w0 E st w) (z1 z2 z3 z4:Int) :
  ∃ E',E.le E'∧E' st.nid=some (.z z1)∧E' (st.nid+1)=some (.z z2)∧E' (st.nid+2)=some (.z z3)∧E' (st.nid+3)=some (.z z4)∧G X own0 w0 E' { st with nid:=st.nid+4 } w:=by
 let E':Env:=fun id=>if id=st.nid then some (.z z1) else if id=st.nid+1 then some (.z z2) else if id=st.nid+2 then some (.z z3) else if id=st.nid+3 then some (.z z4) else E id
 have hlow:∀ id,id<st.nid→E' id=E id:=fun id hid=>by
  simp only [E']
  rw [if_neg (by omega),if_neg (by omega),if_neg (by omega),if_neg (by omega)]
 have hle:E.le E':=fun id x hx=>by
  have hid:id<st.nid:=Nat.lt_of_not_le fun hn=>by rw [g.dom id hn] at hx; cases hx
  rw [hlow id hid]
  exact hx
 have g1:=g.mono hle hlow (nid:=st.nid+4) (by omega) (fun id hid=>by
  simp only [E']
  rw [if_neg (by omega),if_neg (by omega),if_neg (by omega),if_neg (by omega)]
  exact g.dom id (by omega))
 exact ⟨E',hle,by simp [E'],by simp [E'],by simp [E'],by simp [E'],g1⟩
theorem RA {E:Env} {id:Nat} {z:Int} (h:E id=some (.z z)):R E (A id) (i64 z):=by
 simp only [A,R,SIok]
 exact ⟨z,h,rfl⟩
theorem msgOf_ok (g:G X own0 w0 E st w) {k s r t e m c x1 x2 x3 x4:Int} {n:Bool} {to:Option Int} (ht:∀ t',to=some t'→t=t')
  (p2:0≤s∧s≤4294967295) (p3:0≤r∧r≤3) (p4:0≤t∧t≤4) (p5:0≤e∧e≤65535) (p6:0≤m∧m≤4) (p7:0≤c∧c≤3∧(k=11→1≤c))
  (p8:-32768≤x1∧x1≤32767) (p9:-32768≤x2∧x2≤32767) (p10:-32768≤x3∧x3≤32767) (p11:-32768≤x4∧x4≤32767) :
  ∃ E',E.le E'∧R E' (msgOf st k to).1 (.tuple #[.agg #[i64 k,i64 s,i64 r,i64 t,i64 e,i64 m,i64 c,.bool n,i64 x1,i64 x2,i64 x3,i64 x4],i64 0])∧G X own0 w0 E' (msgOf st k to).2 w:=by
 obtain ⟨E',hle,e0,e1,e2,e3,g1⟩:=atoms4 g r t m c
 have hcl:(bif decide (k=11) then (1:Int) else 0)≤c:=by
  cases hb:decide (k=11) with
  | true=>simp only [decide_eq_true_eq] at hb; exact p7.2.2 hb
  | false=>exact p7.1
 have g2:=(((g1.addTab (id:=st.nid+3) (lo:=bif decide (k=11) then 1 else 0) (hi:=3) e3 hcl p7.2.1).addTab (id:=st.nid+2) (lo:=0) (hi:=4) e2 p6.1 p6.2).addTab (id:=st.nid+1) (lo:=0) (hi:=4) e1 p4.1 p4.2).addTab (id:=st.nid) (lo:=0) (hi:=3) e0 p3.1 p3.2
 refine ⟨E',hle,?_,g2⟩
 refine Rtup2 ?_ (RN E' 0)
 simp only [R]
 refine ⟨_,rfl,?_⟩
 refine RL_cons.2 ⟨RN E' k,RL_cons.2 ⟨RU p2.1 p2.2,RL_cons.2 ⟨RA e0,RL_cons.2 ⟨?_,RL_cons.2 ⟨RU p5.1 p5.2,RL_cons.2 ⟨RA e2,RL_cons.2 ⟨RA e3,RL_cons.2 ⟨Rbool E' n,
  RL_cons.2 ⟨RU p8.1 p8.2,RL_cons.2 ⟨RU p9.1 p9.2,RL_cons.2 ⟨RU p10.1 p10.2,RL_cons.2 ⟨RU p11.1 p11.2,by simp [RL]⟩⟩⟩⟩⟩⟩⟩⟩⟩⟩⟩⟩
 cases to with
 | none=>exact RA e1
 | some t'=>rw [ht t' rfl]; exact RN E' t'
theorem msgAny_ok (g:G X own0 w0 E st w) {v:Value} (h:MsgV v):∃ E',E.le E'∧R E' (msgAny st).1 (.tuple #[v,i64 0])∧G X own0 w0 E' (msgAny st).2 w:=by
 obtain ⟨k,s,r,t,e,m,c,x1,x2,x3,x4,n,rfl,p1,p2,p3,p4,p5,p6,p7,p8,p9,p10,p11⟩:=h.is
 have hle:=Env.le_upd (x:=EV.z r) g.nid_none
 have g1:=(g.mono hle (fun id hid=>Env.upd_ne _ _ (by omega)) (Nat.le_succ _) (dom_upd g _)).addTab (id:=st.nid) (lo:=0) (hi:=3) (Env.upd_self _ _ _) p3.1 p3.2
 refine ⟨_,hle,Rtup2 ?_ (RN _ 0),g1⟩
 simp only [R]
 exact ⟨_,rfl,RL_cons.2 ⟨RU p1.1 p1.2,RL_cons.2 ⟨RU p2.1 p2.2,RL_cons.2 ⟨RA (Env.upd_self _ _ _),RL_cons.2 ⟨RU p4.1 p4.2,RL_cons.2 ⟨RU p5.1 p5.2,RL_cons.2 ⟨RU p6.1 p6.2,RL_cons.2 ⟨RU p7.1 p7.2.1,RL_cons.2 ⟨Rbool _ n,
  RL_cons.2 ⟨RU p8.1 p8.2,RL_cons.2 ⟨RU p9.1 p9.2,RL_cons.2 ⟨RU p10.1 p10.2,RL_cons.2 ⟨RU p11.1 p11.2,by simp [RL]⟩⟩⟩⟩⟩⟩⟩⟩⟩⟩⟩⟩⟩
def isTwo (l:Option SI):Bool :=
 match l with
 | some (.a _)=>true
 | some (.r a b)=>decide (a=2)&&decide (b=2)
 | none=>false
def msgKinds (st:SE.St):Out:=([1,2,3,4,5,7,8,9,10,11].map fun k=>msgOf st k none)++[0,1,2,3,4].map fun t=>msgOf st 6 (some t)
def kMsg' (args:List SV) (st:SE.St):Option Out :=
 match args with
 | [b]=>bif lenR st b 0 32 then (bif isTwo (byteIn st b) then some [(.tup [zeroMsg,N 13],st),msgAny st] else some ((.tup [zeroMsg,N 13],st)::msgKinds st)) else none
 | _=>none
theorem zero_ok (E:Env):R E (.tup [zeroMsg,N 13]) (.tuple #[zeroV,i64 13]):=by
 refine Rtup2 ?_ (RN E 13)
 simp only [zeroMsg,R]
 exact ⟨_,rfl,RL_cons.2 ⟨RN E 0,RL_cons.2 ⟨RN E 0,RL_cons.2 ⟨RN E 0,RL_cons.2 ⟨RN E 0,RL_cons.2 ⟨RN E 0,RL_cons.2 ⟨RN E 0,RL_cons.2 ⟨RN E 0,RL_cons.2 ⟨by simp [R],
  RL_cons.2 ⟨RN E 0,RL_cons.2 ⟨RN E 0,RL_cons.2 ⟨RN E 0,RL_cons.2 ⟨RN E 0,by simp [RL]⟩⟩⟩⟩⟩⟩⟩⟩⟩⟩⟩⟩⟩
theorem k_msg (hP:X.P=Tryz.prog) (hX:X.T.gl=glT):KOne X 101 kMsg':=by
 intro own0 w0 args st out h E w vals g hr
 unfold kMsg' at h
 split at h
 ·rename_i b
  obtain ⟨x,e,hx⟩:=RL1 hr
  rw [arr_of e]
  simp only [cond_eq_ite] at h
  split at h
  ·rename_i hc
   obtain ⟨b1,l1,c1,rfl,q1,q2,q3,q4,q5⟩:=lenR_ok g hc hx
   rw [hP]
   refine (msg_any (glW_of g hX) (by omega) q3 q4 q5).mono fun e w' he=>?_
   obtain ⟨hb,he⟩:=he
   have g':=g.below hb
   split at h
   ·cases h
    rcases he with rfl | ⟨v,rfl,hv⟩
    ·exact ⟨_,List.mem_cons_self,E,_,Env.le_refl E,rfl,zero_ok E,g'⟩
    ·obtain ⟨E',hle,h1,h2⟩:=msgAny_ok g' hv
     exact ⟨_,List.mem_cons_of_mem _ List.mem_cons_self,E',_,hle,rfl,h1,h2⟩
   ·cases h
    rcases he with rfl | ⟨v,rfl,hv⟩
    ·exact ⟨_,List.mem_cons_self,E,_,Env.le_refl E,rfl,zero_ok E,g'⟩
    ·obtain ⟨k,s,r,t,e,m,c,x1,x2,x3,x4,n,rfl,p1,p2,p3,p4,p5,p6,p7,p8,p9,p10,p11⟩:=hv.is
     by_cases h6:k=6
     ·subst h6
      obtain ⟨E',hle,h1,h2⟩:=msgOf_ok g' (k:=6) (to:=some t) (n:=n) (fun t' e=>by cases e; rfl) p2 p3 p4 p5 p6 p7 p8 p9 p10 p11
      refine ⟨_,List.mem_cons_of_mem _ (List.mem_append.2 (.inr (List.mem_map.2 ⟨t,?_,rfl⟩))),E',_,hle,rfl,h1,h2⟩
      have:t=0∨t=1∨t=2∨t=3∨t=4:=by omega
      simpa using this
     ·obtain ⟨E',hle,h1,h2⟩:=msgOf_ok g' (k:=k) (to:=none) (n:=n) (fun t' e=>by cases e) p2 p3 p4 p5 p6 p7 p8 p9 p10 p11
      refine ⟨_,List.mem_cons_of_mem _ (List.mem_append.2 (.inl (List.mem_map.2 ⟨k,?_,rfl⟩))),E',_,hle,rfl,h1,h2⟩
      have:k=1∨k=2∨k=3∨k=4∨k=5∨k=7∨k=8∨k=9∨k=10∨k=11:=by omega
      simpa using this
  ·cases h
 ·cases h
end SE
end
section
namespace SE
open Go.RowKit
set_option maxHeartbeats 0
variable {X:Px} {pc:Array Value} {own0:Nat→Prop} {w0 w w':World} {E:Env} {st:SE.St}
theorem k_sel {gi:Nat} {sel:List SV→SE.St→Option (List SV→SE.St→Option Out)} (h:∀ args st kf,sel args st=some kf→KOne X gi kf) :
  KOne X gi (fun args st=>match sel args st with | some kf=>kf args st | none=>none):=by
 intro own0 w0 args st l e
 dsimp only at e
 split at e
 ·rename_i kf hs
  exact h args st kf hs own0 w0 args st l e
 ·cases e
def coreRo:List SV:=rep 95 .u++[.ptr 2 0]++rep 50 .u
def tabRo:List SV:=.bool::rep 2 .u++(.bool::rep 38 .u)++(.bool::rep 38 .u)++(.bool::rep 38 .u)++rep 2 .u
def hearS (n:Nat):SE.St where
 heap:=[(4,.cells 88 [.ptr 1 0,.sl 31,.sl 32]),(6,.opq),(1,.ro 108 coreRo),(2,.ro 145 tabRo)]
 tab:=[]
 sls:=[(31,.own 6 3 [U 0 (Int.ofNat n)])]
 nid:=300
 facts:=[]
def hearOut (n:Nat):Out:=[(.tup [],{ heap:=[(4,.cells 88 [.ptr 1 0,.sl 1031,.sl 32]),(1006,.opq)],tab:=[],sls:=[(1031,.own 1006 3 [U 0 (Int.ofNat n+1)])],nid:=1040,facts:=[] })]
def hearA:List SV:=[.ptr 4 0,I64,replyS I64]
def hearM (n:Nat):Sm:=⟨hearS n,hearA,hearOut n⟩
noncomputable abbrev kHr:List (Nat×(List SV→SE.St→Option Out)):=[(151,kPutReply'),(152,kPut')]
theorem kHr_ok:KAll (Xc pc) kHr:=⟨k_putReply rfl rfl,k_put rfl,trivial⟩
noncomputable def hearR (gi n:Nat):Bool:=runFits 1000 [] (hearOut n) (run (TL kHr (fun _=>false) false) 60 gi hearA (hearS n))
theorem hear_a:allN (hearR 124) 0 24=true:=by decide +kernel
theorem hear_b:allN (hearR 124) 24 24=true:=by decide +kernel
theorem tell_a:allN (hearR 105) 0 24=true:=by decide +kernel
theorem tell_b:allN (hearR 105) 24 24=true:=by decide +kernel
theorem hear_sm (hp:PolFit pc) {n:Nat} (h:n<48):SmOk (Xc pc) 124 (hearM n):=by
 have e:hearR 124 n=true:=by
  by_cases a:n<24
  ·exact allN_ok hear_a n (by omega) (by omega)
  ·exact allN_ok hear_b n (by omega) (by omega)
 exact smL hp kHr_ok e
theorem tell_sm (hp:PolFit pc) {n:Nat} (h:n<48):SmOk (Xc pc) 105 (hearM n):=by
 have e:hearR 105 n=true:=by
  by_cases a:n<24
  ·exact allN_ok tell_a n (by omega) (by omega)
  ·exact allN_ok tell_b n (by omega) (by omega)
 exact smL hp kHr_ok e
def sentN (args:List SV) (st:SE.St):Option Nat :=
 match args with
 | .ptr s 0::_=>match lk st.heap s with
  | some (.cells _ [_,.sl i,_])=>match lk st.sls i with
   | some (.own _ 3 [n])=>match rng st n with
    | some (_,_,.ofNat hi)=>bif Nat.blt hi 48 then some hi else none
    | _=>none
   | _=>none
  | _=>none
 | _=>none
def hearSel (args:List SV) (st:SE.St):Option (List SV→SE.St→Option Out) :=
 match sentN args st with
 | some n=>some (fN n fun n=>kSm (hearM n) [] true)
 | none=>none
def kHear' (args:List SV) (st:SE.St):Option Out:=match hearSel args st with | some kf=>kf args st | none=>none
theorem sentN_lt {args:List SV} {n:Nat} (h:sentN args st=some n):n<48:=by
 unfold sentN at h
 split at h
 ·split at h
  ·split at h
   ·split at h
    ·simp only [cond_eq_ite] at h
     split at h
     ·rename_i hb
      cases h
      exact Nat.le_of_ble_eq_true hb
     ·cases h
    ·cases h
   ·cases h
  ·cases h
 ·cases h
theorem k_hear (hp:PolFit pc):KOne (Xc pc) 124 kHear':=k_sel fun args st kf h=>by
 unfold hearSel at h
 split at h
 ·rename_i n hn
  cases h
  rw [fN_eq]
  exact kSmL hp (hear_sm hp (sentN_lt hn)) [] true
 ·cases h
theorem k_tell (hp:PolFit pc):KOne (Xc pc) 105 kHear':=k_sel fun args st kf h=>by
 unfold hearSel at h
 split at h
 ·rename_i n hn
  cases h
  rw [fN_eq]
  exact kSmL hp (tell_sm hp (sentN_lt hn)) [] true
 ·cases h
end SE
end
section
namespace SE
open Go.RowKit
set_option maxHeartbeats 0
variable {X:Px} {pc:Array Value} {own0:Nat→Prop} {w0 w w':World} {E:Env} {st:SE.St} {xt:List (Nat×Int×Int)} {xf:List (Nat×List SV)}
def qArgs:List SV:=[U 0 3,A 237,A 238,A 239,A 148]
def qOwn (xt:List (Nat×Int×Int)) (xf:List (Nat×List SV)):SE.St where
 heap:=[(3,.cells 158 [.sl 30,A 148,C64]),(5,.opq)]
 tab:=(148,1,3)::(237,0,1)::(238,0,1)::(239,0,1)::xt
 sls:=[(30,.own 5 1 qArgs)]
 nid:=300
 facts:=xf
def lineC:List Nat→List SV
 | []=>[]
 | s::l=>N (Int.ofNat s)::A (299+s)::I64::I64::C64::lineC l
def bitN (l:List Nat) (s:Nat):Int:=bif hasN l s then 1 else 0
def mostN (l:List Nat):Int:=bif Nat.beq l.length 0 then 1 else Int.ofNat l.length
def qTab (xt tb:List (Nat×Int×Int)) (l:List Nat):List (Nat×Int×Int) :=
 (148,mostN l,3)::(237,bitN l 1,bitN l 1)::(238,bitN l 2,bitN l 2)::(239,bitN l 3,bitN l 3)::(tb++xt)
def rkF:List (Nat×List SV):=[(5,[N 1,A 300]),(5,[N 2,A 301]),(5,[N 3,A 302])]
def qRow (xt:List (Nat×Int×Int)) (xf:List (Nat×List SV)) (tb:List (Nat×Int×Int)) (l:List Nat):SE.St where
 heap:=[(3,.cells 158 [.sl 304,A 148,C64]),(303,.row 136 5 304 (lineC l))]
 tab:=qTab xt tb l
 sls:=[(304,.row 303 l.length)]
 nid:=305
 facts:=rkF++xf
def qNil (xt:List (Nat×Int×Int)) (xf:List (Nat×List SV)):SE.St where
 heap:=[(3,.cells 158 [.nils,A 148,C64])]
 tab:=qTab xt [] []
 sls:=[]
 nid:=305
 facts:=xf
theorem lk_nil {α:Type} (k:Nat):lk ([]:List (Nat×α)) k=none:=rfl
def rAt (x y z:Nat) (id:Nat):Int:=bif Nat.beq id 300 then x else bif Nat.beq id 301 then y else z
def tbIn (f:Nat→Int):List (Nat×Int×Int)→Bool
 | []=>true
 | (id,lo,hi)::l=>(Nat.ble 300 id&&Nat.ble id 302)&&((decide (lo≤f id)&&decide (f id≤hi))&&tbIn f l)
theorem tbIn_ok {f:Nat→Int}:∀ {tb:List (Nat×Int×Int)},tbIn f tb=true→∀ id lo hi,lk tb id=some (lo,hi)→(300≤id∧id≤302)∧lo≤f id∧f id≤hi
 | [],h,id,lo,hi,e=>by simp [lk] at e
 | (i,a,b)::l,h,id,lo,hi,e=>by
  simp only [tbIn,Bool.and_eq_true,decide_eq_true_eq] at h
  rw [lk_cons] at e
  split at e
  ·rename_i he
   subst he
   cases e
   exact ⟨⟨Nat.le_of_ble_eq_true h.1.1,Nat.le_of_ble_eq_true h.1.2⟩,h.2.1⟩
  ·exact tbIn_ok h.2.2 id lo hi e
theorem rank_lt (hp:PolFit pc) (s:Nat) (hs:s<5):∃ n:Nat,n<5∧rank pc s=n∧pI pc n=s:=by
 obtain ⟨i,hi,e⟩:=hp.perm s hs
 have hi':i=0∨i=1∨i=2∨i=3∨i=4:=by omega
 unfold rank rankOf
 by_cases h0:pI pc 0=s
 ·exact ⟨0,by omega,by rw [if_pos h0]; rfl,h0⟩
 rw [if_neg h0]
 by_cases h1:pI pc 1=s
 ·exact ⟨1,by omega,by rw [if_pos h1]; rfl,h1⟩
 rw [if_neg h1]
 by_cases h2:pI pc 2=s
 ·exact ⟨2,by omega,by rw [if_pos h2]; rfl,h2⟩
 rw [if_neg h2]
 by_cases h3:pI pc 3=s
 ·exact ⟨3,by omega,by rw [if_pos h3]; rfl,h3⟩
 rw [if_neg h3]
 by_cases h4:pI pc 4=s
 ·exact ⟨4,by omega,by rw [if_pos h4]; rfl,h4⟩
 exfalso
 rcases hi' with rfl | rfl | rfl | rfl | rfl <;> contradiction
theorem ranks3 (hp:PolFit pc):∃ x y z:Nat,x<5∧y<5∧z<5∧x≠y∧x≠z∧y≠z∧rank pc 1=x∧rank pc 2=y∧rank pc 3=z:=by
 obtain ⟨x,hx,ex,px⟩:=rank_lt hp 1 (by omega)
 obtain ⟨y,hy,ey,py⟩:=rank_lt hp 2 (by omega)
 obtain ⟨z,hz,ez,pz⟩:=rank_lt hp 3 (by omega)
 refine ⟨x,y,z,hx,hy,hz,fun h=>?_,fun h=>?_,fun h=>?_,ex,ey,ez⟩
 ·subst h; rw [px] at py; omega
 ·subst h; rw [px] at pz; omega
 ·subst h; rw [py] at pz; omega
def nOn (o:On):Nat:=o.src.toNat
theorem seq_mem:∀ {l:List On},(l.map On.src).Nodup→(∀ o∈l,(1≤o.src∧o.src≤3)∧o.rg)→l.map nOn∈allSeqs
 | [],_,_=>by simp [allSeqs]
 | [a],_,h=>by
  have h1:=(h a (by simp)).1
  have:nOn a=1∨nOn a=2∨nOn a=3:=by unfold nOn; omega
  rcases this with e | e | e <;> simp [allSeqs,e]
 | [a,b],hn,h=>by
  have h1:=(h a (by simp)).1
  have h2:=(h b (by simp)).1
  simp only [List.map_cons,List.map_nil,List.nodup_cons,List.mem_cons,List.not_mem_nil,or_false,not_false_eq_true,List.nodup_nil,and_true] at hn
  have e1:nOn a=1∨nOn a=2∨nOn a=3:=by unfold nOn; omega
  have e2:nOn b=1∨nOn b=2∨nOn b=3:=by unfold nOn; omega
  have ne:nOn a≠nOn b:=by unfold nOn; omega
  rcases e1 with e | e | e <;> rcases e2 with e' | e' | e' <;> first | (exfalso; omega) | simp [allSeqs,e,e']
 | [a,b,c],hn,h=>by
  have h1:=(h a (by simp)).1
  have h2:=(h b (by simp)).1
  have h3:=(h c (by simp)).1
  simp only [List.map_cons,List.map_nil,List.nodup_cons,List.mem_cons,List.not_mem_nil,or_false,not_false_eq_true,List.nodup_nil,and_true,not_or] at hn
  have e1:nOn a=1∨nOn a=2∨nOn a=3:=by unfold nOn; omega
  have e2:nOn b=1∨nOn b=2∨nOn b=3:=by unfold nOn; omega
  have e3:nOn c=1∨nOn c=2∨nOn c=3:=by unfold nOn; omega
  have ne1:nOn a≠nOn b:=by unfold nOn; omega
  have ne2:nOn a≠nOn c:=by unfold nOn; omega
  have ne3:nOn b≠nOn c:=by unfold nOn; omega
  rcases e1 with e | e | e <;> rcases e2 with e' | e' | e' <;> rcases e3 with e'' | e'' | e'' <;> first | (exfalso; omega) | simp [allSeqs,e,e',e'']
 | a::b::c::d::l,hn,h=>by
  have h1:=(h a (by simp)).1
  have h2:=(h b (by simp)).1
  have h3:=(h c (by simp)).1
  have h4:=(h d (by simp)).1
  simp only [List.map_cons,List.nodup_cons,List.mem_cons,not_or] at hn
  exfalso
  omega
theorem onCells_length (pc:Array Value):∀ l:List On,(onCells pc l).length=l.length*5
 | []=>rfl
 | o::l=>by simp only [onCells,List.length_append,List.length_cons,List.length_nil,onCells_length pc l]; omega
theorem lineC_length:∀ l:List Nat,(lineC l).length=l.length*5
 | []=>rfl
 | o::l=>by simp only [lineC,List.length_cons,lineC_length l]; omega
theorem hasN_map:∀ {l:List On} {s:Nat},(∀ o∈l,(1≤o.src∧o.src≤3)∧o.rg)→(hasN (l.map nOn) s=true↔(s:Int)∈l.map On.src)
 | [],s,_=>by simp [hasN]
 | o::l,s,h=>by
  have h1:=(h o List.mem_cons_self).1
  have ih:=hasN_map (s:=s) (fun x hx=>h x (List.mem_cons_of_mem _ hx))
  simp only [List.map_cons,List.mem_cons,hasN]
  cases hb:Nat.beq (nOn o) s with
  | true =>
   have e:=nbeq hb
   have:(s:Int)=o.src:=by rw [← e]; unfold nOn; omega
   simp [this]
  | false =>
   have e:=nbeq_false hb
   have:(s:Int)≠o.src:=fun h'=>e (by unfold nOn; omega)
   simp only [cond_false,Bool.false_or,this,false_or]
   exact ih
theorem bit_ok {l:List On} (h:∀ o∈l,(1≤o.src∧o.src≤3)∧o.rg) (s:Nat):bitOf l s=bitN (l.map nOn) s:=by
 unfold bitOf bitN
 cases hb:hasN (l.map nOn) s with
 | true=>rw [if_pos ((hasN_map h).1 hb)]; rfl
 | false=>rw [if_neg (fun h'=>by rw [(hasN_map h).2 h'] at hb; cases hb)]; rfl
theorem RI64 {E:Env} {z:Int} (h:-9223372036854775808≤z∧z≤9223372036854775807):R E I64 (i64 z):=by
 simp only [I64,R,SIok]
 exact ⟨z,h,rfl⟩
theorem RC64 {E:Env} {z:Int} (h:0≤z∧z≤18446744073709551615):R E C64 (.int .u64 z):=by
 simp only [C64,R,SIok]
 exact ⟨z,h,rfl⟩
theorem lineC_ok {x y z:Nat} (e1:rank pc 1=x) (e2:rank pc 2=y) (e3:rank pc 3=z) (h0:E 300=some (.z x)) (h1:E 301=some (.z y)) (h2:E 302=some (.z z)) :
  ∀ {l:List On},(∀ o∈l,(1≤o.src∧o.src≤3)∧o.rg)→RL E (lineC (l.map nOn)) (onCells pc l)
 | [],_=>by simp [lineC,onCells,RL]
 | o::l,h=>by
  have ho:=h o List.mem_cons_self
  have ih:=lineC_ok e1 e2 e3 h0 h1 h2 (fun x hx=>h x (List.mem_cons_of_mem _ hx))
  simp only [List.map_cons,lineC,onCells,List.cons_append,List.nil_append]
  have hs:(Int.ofNat (nOn o))=o.src:=by unfold nOn; simp only [Int.ofNat_eq_natCast]; omega
  refine RL_cons.2 ⟨by rw [hs]; exact RN E o.src,RL_cons.2 ⟨?_,RL_cons.2 ⟨RI64 ho.2.1,RL_cons.2 ⟨RI64 ho.2.2.1,RL_cons.2 ⟨RC64 ho.2.2.2,ih⟩⟩⟩⟩⟩
  have hc:o.src=1∨o.src=2∨o.src=3:=by omega
  rcases hc with hc | hc | hc
  ·have:nOn o=1:=by unfold nOn; omega
   rw [this,hc,e1]
   exact RA h0
  ·have:nOn o=2:=by unfold nOn; omega
   rw [this,hc,e2]
   exact RA h1
  ·have:nOn o=3:=by unfold nOn; omega
   rw [this,hc,e3]
   exact RA h2
theorem RA_of {E:Env} {id:Nat} {z:Int} (h:R E (A id) (i64 z)):E id=some (.z z):=by
 simp only [A,R,SIok] at h
 obtain ⟨z',hz,e⟩:=h
 have:z=z':=by simpa [i64] using e
 rw [this]
 exact hz
theorem mostN_le {l:List Nat} {m:Int} (h1:1≤m) (h2:(l.length:Int)≤m):mostN l≤m:=by
 unfold mostN
 cases Nat.beq l.length 0 with
 | true=>exact h1
 | false=>exact h2
theorem q_open (hp:PolFit pc) (g:G (Xc pc) own0 w0 E (qOwn xt xf) w):∃ E',E.le E'∧(G (Xc pc) own0 w0 E' (qNil xt xf) w ∨
  ∃ l∈allSeqs,∃ x y z:Nat,x<5∧y<5∧z<5∧x≠y∧x≠z∧y≠z∧∀ tb,tbIn (rAt x y z) tb=true→G (Xc pc) own0 w0 E' (qRow xt xf tb l) w):=by
 obtain ⟨ho5,base,ln,cap,vs,hE30,hvs,hb5,e,sz,rest,hoe,hve,hcase⟩:=g.sls 30 (.own 5 1 qArgs) rfl
 have:(136,5)=(e,sz):=by
  have h:ownT 1=some (e,sz):=hoe
  have h':ownT 1=some (136,5):=rfl
  rw [h'] at h
  exact Option.some.inj h
 cases this
 rcases g.heap 3 _ rfl with ⟨h0,_⟩ | ⟨n3,hE3,hn3,hown3,us3,hg3,hr3⟩
 ·cases h0
 have hlen3:=RL_length hr3
 obtain ⟨v30,v148,vc,ev3,r30,r148,rc⟩:∃ a b c,us3.toList=[a,b,c]∧R E (.sl 30) a∧R E (A 148) b∧R E C64 c:=by
  simp only [List.length_cons,List.length_nil] at hlen3
  match hh:us3.toList,hlen3 with
  | [a,b,c],_ =>
   rw [hh] at hr3
   exact ⟨a,b,c,rfl,(RL_cons.1 hr3).1,(RL_cons.1 (RL_cons.1 hr3).2).1,(RL_cons.1 (RL_cons.1 (RL_cons.1 hr3).2).2).1⟩
 have hv30:v30=.slice base ln cap:=by
  simp only [R] at r30
  obtain ⟨b,l,c,h1,h2⟩:=r30
  rw [hE30] at h1
  cases h1
  exact h2
 subst hv30
 obtain ⟨us,l,m,hus,hlo,hnd,hsrc,hlm,hrest⟩:∃ us l m,us=onCells pc l∧((base=none∧ln=0∧cap=0∧l=[])∨∃ n vs,base=some ⟨n,0,none⟩∧w.heap[n]?=some (.cells vs 136 (0,0))∧vs.size=cap*5∧ln≤cap∧us=vs.toList.take (ln*5)∧ln=l.length) ∧
   (l.map On.src).Nodup∧(∀ o∈l,(1≤o.src∧o.src≤3)∧o.rg)∧(l.length:Int)≤m∧rest=[i64 (bitOf l 1),i64 (bitOf l 2),i64 (bitOf l 3),i64 m]:=by
  rcases hcase with ⟨h1,h2,h3,l,m,h4,h5,h6,h7,h8⟩ | ⟨n,us,h1,h2,h3,h4,l,m,h5,h6,h7,h8,h9⟩
  ·refine ⟨_,l,m,h4,.inl ⟨h1,h2,h3,?_⟩,h5,h6,h7,h8⟩
   cases l with
   | nil=>rfl
   | cons o l=>simp [onCells] at h4
  ·refine ⟨_,l,m,h5,.inr ⟨n,us,h1,?_,h3,h4,rfl,?_⟩,h6,h7,h8,h9⟩
   ·subst h1
    simpa using h2
   ·have hl:=congrArg List.length h5
    rw [onCells_length,List.length_take,Array.length_toList,h3] at hl
    have:ln*5≤cap*5:=Nat.mul_le_mul_right 5 h4
    omega
 rw [hve,hrest] at hvs
 simp only [qArgs,RL_cons] at hvs
 obtain ⟨_,r1,r2,r3,r4,_⟩:=hvs
 have e237:=RA_of r1
 have e238:=RA_of r2
 have e239:=RA_of r3
 have e148:=RA_of r4
 obtain ⟨m',em,m1,m2⟩:=g.tab 148 1 3 rfl
 rw [e148] at em
 have em:m=m':=by simpa using em
 subst em
 have hbit:=bit_ok hsrc
 have b1:=hbit 1
 have b2:=hbit 2
 have b3:=hbit 3
 simp only [Int.natCast_one,Int.cast_ofNat_Int] at b1 b2 b3
 have hseq:=seq_mem hnd hsrc
 have hxt:∀ id lo hi,id≠148→id≠237→id≠238→id≠239→lk xt id=some (lo,hi)→∃ z,E id=some (.z z)∧lo≤z∧z≤hi:=fun id lo hi h1 h2 h3 h4 h=>g.tab id lo hi (by
  simp only [qOwn,lk_cons]
  rw [if_neg h1,if_neg h2,if_neg h3,if_neg h4]
  exact h)
 rcases hlo with ⟨rfl,rfl,rfl,rfl⟩ | ⟨n,ws,rfl,hgn,hws,hlc,hus',hll⟩
 ·refine ⟨E,Env.le_refl E,.inl ⟨g.size,g.os,g.tape,g.output,g.frame,?_,?_,?_,?_,fun id hid=>g.dom id (by simp only [qNil] at hid; simp only [qOwn]; omega),?_,g.facts⟩⟩
  ·intro id blk hl
   simp only [qNil,lk_cons,lk_nil] at hl
   split at hl
   ·rename_i he
    subst he
    cases hl
    exact .inr ⟨n3,hE3,hn3,hown3,us3,hg3,by rw [ev3]; exact RL_cons.2 ⟨by simp [R],RL_cons.2 ⟨r148,RL_cons.2 ⟨rc,by simp [RL]⟩⟩⟩⟩
   ·cases hl
  ·intro id id' b b' k h1 h2 h3 h4
   simp only [qNil,lk_cons,lk_nil] at h1 h2
   split at h1
   ·split at h2
    ·rename_i q1 q2; rw [q1,q2]
    ·cases h2
   ·cases h1
  ·intro id lo hi hl
   simp only [qNil,qTab,lk_cons,List.nil_append] at hl
   split at hl
   ·rename_i he; subst he; cases hl; exact ⟨m,e148,m1,m2⟩
   ·rename_i n1
    split at hl
    ·rename_i he; subst he; cases hl; rw [b1] at e237; exact ⟨_,e237,Int.le_refl _,Int.le_refl _⟩
    ·rename_i n2
     split at hl
     ·rename_i he; subst he; cases hl; rw [b2] at e238; exact ⟨_,e238,Int.le_refl _,Int.le_refl _⟩
     ·rename_i n3
      split at hl
      ·rename_i he; subst he; cases hl; rw [b3] at e239; exact ⟨_,e239,Int.le_refl _,Int.le_refl _⟩
      ·rename_i n4
       exact hxt id lo hi n1 n2 n3 n4 hl
  ·intro id i hl
   simp [qNil,lk_nil] at hl
  ·intro gg cs hg
   obtain ⟨k1,k2,k3⟩:=g.gl gg cs hg
   refine ⟨k1,fun id blk hl=>?_,k3⟩
   simp only [qNil,lk_cons,lk_nil] at hl
   split at hl
   ·rename_i he; subst he; exact k2 3 _ rfl
   ·cases hl
 ·obtain ⟨x,y,z,hx,hy,hz,d1,d2,d3,q1,q2,q3⟩:=ranks3 hp
  let E':Env:=fun id=>if id=300 then some (.z x) else if id=301 then some (.z y) else if id=302 then some (.z z) else if id=303 then some (.blk n) else if id=304 then some (.sl (some ⟨n,0,none⟩) ln cap) else E id
  have hdom:∀ id,300≤id→E id=none:=fun id hid=>g.dom id hid
  have hle:E.le E':=fun id v hv=>by
   have hid:id<300:=Nat.lt_of_not_le fun hn=>by rw [hdom id hn] at hv; cases hv
   simp only [E']
   rw [if_neg (by omega),if_neg (by omega),if_neg (by omega),if_neg (by omega),if_neg (by omega)]
   exact hv
  have f0:E' 300=some (.z x):=by simp [E']
  have f1:E' 301=some (.z y):=by simp [E']
  have f2:E' 302=some (.z z):=by simp [E']
  have f3:E' 303=some (.blk n):=by simp [E']
  have f4:E' 304=some (.sl (some ⟨n,0,none⟩) ln cap):=by simp [E']
  have h5:E 5=some (.blk n):=hb5 _ rfl
  have hn5:n<w.heap.size∧(own0 n∨w0.heap.size≤n):=by
   rcases g.heap 5 .opq rfl with ⟨_,_,h⟩ | ⟨n',h1,h2,h3,h4⟩
   ·exact h n h5
   ·rw [h5] at h1
    cases h1
    rcases h3 with h3 | h3
    ·cases h3
    ·exact ⟨h2,h3⟩
  have hne:n3≠n:=fun h=>by
   subst h
   exact absurd (g.inj 3 5 _ _ n3 rfl rfl hE3 h5) (by decide)
  have hrow:RL E' (lineC (l.map nOn)) (ws.toList.take (ln*5)):=by
   rw [← hus',hus]
   exact lineC_ok q1 q2 q3 f0 f1 f2 hsrc
  have hll':(l.map nOn).length=ln:=by rw [List.length_map,hll]
  refine ⟨E',hle,.inr ⟨l.map nOn,hseq,x,y,z,hx,hy,hz,d1,d2,d3,fun tb htb=>⟨g.size,g.os,g.tape,g.output,g.frame,?_,?_,?_,?_,?_,?_,?_⟩⟩⟩
  ·intro id blk hl
   simp only [qRow,lk_cons,lk_nil] at hl
   split at hl
   ·rename_i he
    subst he
    cases hl
    refine .inr ⟨n3,hle _ _ hE3,hn3,hown3,us3,hg3,?_⟩
    rw [ev3]
    exact RL_cons.2 ⟨by simp only [R]; exact ⟨_,_,_,f4,rfl⟩,RL_cons.2 ⟨r148.mono hle,RL_cons.2 ⟨rc.mono hle,by simp [RL]⟩⟩⟩
   ·split at hl
    ·rename_i he
     subst he
     cases hl
     exact .inr ⟨n,f3,hn5.1,.inr hn5.2,ws,ln,cap,hgn,f4,hws,by rw [lineC_length,hll'],hlc,by rw [lineC_length,hll']; exact hrow⟩
    ·cases hl
  ·intro id id' b b' k h1 h2 h3 h4
   simp only [qRow,lk_cons,lk_nil] at h1 h2
   have e3:=hle _ _ hE3
   split at h1
   ·rename_i i1
    split at h2
    ·rename_i i2; rw [i1,i2]
    ·split at h2
     ·rename_i i2
      rw [i1,e3] at h3
      rw [i2,f3] at h4
      cases h3
      cases h4
      exact absurd rfl hne
     ·cases h2
   ·split at h1
    ·rename_i i1
     split at h2
     ·rename_i i2
      rw [i1,f3] at h3
      rw [i2,e3] at h4
      cases h3
      cases h4
      exact absurd rfl hne
     ·split at h2
      ·rename_i i2; rw [i1,i2]
      ·cases h2
    ·cases h1
  ·intro id lo hi hl
   simp only [qRow,qTab,lk_cons] at hl
   split at hl
   ·rename_i he; subst he; cases hl; exact ⟨m,hle _ _ e148,mostN_le m1 (by rw [List.length_map]; exact hlm),m2⟩
   ·rename_i n1
    split at hl
    ·rename_i he; subst he; cases hl; rw [b1] at e237; exact ⟨_,hle _ _ e237,Int.le_refl _,Int.le_refl _⟩
    ·rename_i n2
     split at hl
     ·rename_i he; subst he; cases hl; rw [b2] at e238; exact ⟨_,hle _ _ e238,Int.le_refl _,Int.le_refl _⟩
     ·rename_i n3
      split at hl
      ·rename_i he; subst he; cases hl; rw [b3] at e239; exact ⟨_,hle _ _ e239,Int.le_refl _,Int.le_refl _⟩
      ·rename_i n4
       rcases lk_append hl with hl | ⟨_,hl⟩
       ·obtain ⟨⟨i1,i2⟩,t1,t2⟩:=tbIn_ok htb id lo hi hl
        have hi':id=300∨id=301∨id=302:=by omega
        rcases hi' with rfl | rfl | rfl
        ·exact ⟨_,f0,t1,t2⟩
        ·exact ⟨_,f1,t1,t2⟩
        ·exact ⟨_,f2,t1,t2⟩
       ·obtain ⟨z',hz1,hz2⟩:=hxt id lo hi n1 n2 n3 n4 hl
        exact ⟨z',hle _ _ hz1,hz2⟩
  ·intro id i hl
   simp only [qRow,lk_cons,lk_nil] at hl
   split at hl
   ·rename_i he
    subst he
    cases hl
    exact ⟨n,cap,f3,by rw [hll']; exact f4⟩
   ·cases hl
  ·intro id hid
   simp only [qRow] at hid
   simp only [E']
   rw [if_neg (by omega),if_neg (by omega),if_neg (by omega),if_neg (by omega),if_neg (by omega)]
   exact hdom id (by omega)
  ·intro gg cs hg
   obtain ⟨k1,k2,vv,ee,fr,k3,k4⟩:=g.gl gg cs hg
   refine ⟨k1,fun id blk hl=>?_,vv,ee,fr,k3,k4.mono hle⟩
   simp only [qRow,lk_cons,lk_nil] at hl
   split at hl
   ·rename_i he
    subst he
    rw [hle _ _ hE3,← hE3]
    exact k2 3 _ rfl
   ·split at hl
    ·rename_i he
     subst he
     rw [f3,← h5]
     exact k2 5 _ rfl
    ·cases hl
  ·intro f hf
   simp only [qRow,rkF,List.cons_append,List.nil_append,List.mem_cons] at hf
   have one:∀ (s:Int) (id:Nat) (r:Int),E' id=some (.z r)→rank pc s=r→∃ vs,RL E' [N s,A id] vs∧UFc pc 5 vs:=fun s id r h1 h2 =>
    ⟨[i64 s,i64 r],RL_cons.2 ⟨RN E' s,RL_cons.2 ⟨RA h1,by simp [RL]⟩⟩,s,r,rfl,h2.symm⟩
   rcases hf with rfl | rfl | rfl | hf
   ·exact one 1 300 x f0 q1
   ·exact one 2 301 y f1 q2
   ·exact one 3 302 z f2 q3
   ·obtain ⟨vs',p1,p2⟩:=g.facts f hf
    exact ⟨vs',p1.mono hle,p2⟩
end SE
end
section
namespace SE
open Go.RowKit
set_option maxHeartbeats 0
variable {X:Px} {pc:Array Value} {own0:Nat→Prop} {w0 w w':World} {E:Env} {st:SE.St} {xt:List (Nat×Int×Int)} {xf:List (Nat×List SV)}
theorem len64_2 (w:World):Calls Tryz.prog 176 #[.int .u64 2] w fun e w'=>e=.returned (.int .i64 2)∧w=w':=by
 go_enter Tryz.func176,Tryz.ntmps176
 go_wp2
 go_ret
 exact ⟨by kernel_rfl,rfl⟩
theorem len64_3 (w:World):Calls Tryz.prog 176 #[.int .u64 3] w fun e w'=>e=.returned (.int .i64 2)∧w=w':=by
 go_enter Tryz.func176,Tryz.ntmps176
 go_wp2
 go_ret
 exact ⟨by kernel_rfl,rfl⟩
def kLen (args:List SV) (st:SE.St):Option Out :=
 match args with
 | [.int .u64 (.r a b)]=>bif decide (a=b)&&(decide (a=2)||decide (a=3)) then some [(N 2,st)] else none
 | _=>none
theorem k_len:KOne (Xc pc) 176 kLen:=by
 intro own0 w0 args st out h E w vals g hr
 unfold kLen at h
 split at h
 ·rename_i a b
  simp only [cond_eq_ite,Bool.and_eq_true,Bool.or_eq_true,decide_eq_true_eq] at h
  split at h
  ·rename_i hc
   cases h
   obtain ⟨x,e,hx⟩:=RL1 hr
   rw [arr_of e]
   simp only [R,SIok] at hx
   obtain ⟨z,hz,rfl⟩:=hx
   rcases hc with ⟨h1,h2 | h2⟩
   ·have:z=2:=by omega
    subst this
    refine (len64_2 w).mono fun e w' he=>?_
    obtain ⟨rfl,rfl⟩:=he
    exact ⟨_,List.mem_cons_self,E,_,Env.le_refl E,rfl,RN E 2,g⟩
   ·have:z=3:=by omega
    subst this
    refine (len64_3 w).mono fun e w' he=>?_
    obtain ⟨rfl,rfl⟩:=he
    exact ⟨_,List.mem_cons_self,E,_,Env.le_refl E,rfl,RN E 2,g⟩
  ·cases h
 ·cases h
def inR (st:SE.St) (v:SV):Bool:=isIn st v (-9223372036854775808) 9223372036854775807
def inU (st:SE.St) (v:SV):Bool :=
 match rng st v with
 | some (.u64,lo,hi)=>decide (0≤lo)&&decide (hi≤18446744073709551615)
 | _=>false
theorem inU_ok (g:G X own0 w0 E st w) {x:SV} {v:Value} (h:inU st x=true) (hr:R E x v):∃ z:Int,v=.int .u64 z∧0≤z∧z≤18446744073709551615:=by
 unfold inU at h
 split at h
 ·rename_i lo hi hrg
  simp only [Bool.and_eq_true,decide_eq_true_eq] at h
  obtain ⟨z,rfl,h1,h2⟩:=rng_ok g hrg hr
  exact ⟨z,rfl,by omega,by omega⟩
 ·cases h
def parseL (st:SE.St):List SV→Option (List Nat)
 | []=>some []
 | s::r::a::m::c::l =>
  (match cstN st s with
  | some n=>bif (isI s&&exI r)&&((Nat.ble 1 n&&Nat.ble n 3)&&(hasF (5,[N (Int.ofNat n),r]) st.facts&&(inR st a&&(inR st m&&inU st c)))) then
    (match parseL st l with
    | some ns=>bif hasN ns n then none else some (n::ns)
    | none=>none) else none
  | none=>none)
 | _=>none
theorem isI_val {E:Env} {x:SV} {v:Value} (h:isI x=true) (hr:R E x v):∃ z,v=i64 z:=by
 unfold isI at h
 split at h
 ·simp only [R] at hr
  obtain ⟨z,_,rfl⟩:=hr
  exact ⟨z,rfl⟩
 ·cases h
theorem RL5c {E:Env} {a b c d e:SV} {l:List SV} {vs:List Value} (h:RL E (a::b::c::d::e::l) vs):∃ x y z u v vs',vs=x::y::z::u::v::vs'∧R E a x∧R E b y∧R E c z∧R E d u∧R E e v∧RL E l vs':=by
 have hlen:=RL_length h
 simp only [List.length_cons] at hlen
 match vs,hlen with
 | x::y::z::u::v::vs',_ =>
  simp only [RL_cons] at h
  exact ⟨x,y,z,u,v,vs',rfl,h⟩
theorem parseL_ok (g:G (Xc pc) own0 w0 E st w):∀ {cs:List SV} {us:List Value} {ns:List Nat},parseL st cs=some ns→RL E cs us →
  ∃ l:List On,us=onCells pc l∧l.map nOn=ns∧(l.map On.src).Nodup∧∀ o∈l,(1≤o.src∧o.src≤3)∧o.rg
 | [],us,ns,h,hr=>by
  simp only [parseL,Option.some.injEq] at h
  subst h
  exact ⟨[],by rw [RL_nil.1 hr]; rfl,rfl,by simp,by simp⟩
 | s::r::a::m::c::cs,us,ns,h,hr=>by
  obtain ⟨x,y,z,u,v,us',rfl,r1,r2,r3,r4,r5,r6⟩:=RL5c hr
  simp only [parseL] at h
  split at h
  ·rename_i n hn
   simp only [cond_eq_ite] at h
   split at h
   ·rename_i hc
    simp only [Bool.and_eq_true] at hc
    obtain ⟨⟨h1,h2⟩,⟨h3,h4⟩,h5,h6,h7,h8⟩:=hc
    split at h
    ·rename_i ns' hns
     split at h
     ·cases h
     ·rename_i hnot
      cases h
      obtain ⟨l,rfl,e2,e3,e4⟩:=parseL_ok g hns r6
      obtain ⟨k,hk⟩:=cstN_ok g hn r1
      obtain ⟨z1,hz1⟩:=isI_val h1 r1
      have hz1':x=i64 n:=by
       rw [hk] at hz1
       cases hz1
       exact hk
      subst hz1'
      obtain ⟨age,rfl,a1,a2⟩:=isIn_ok g h6 r3
      obtain ⟨most,rfl,m1,m2⟩:=isIn_ok g h7 r4
      obtain ⟨came,rfl,c1,c2⟩:=inU_ok g h8 r5
      obtain ⟨fv,f1,f2⟩:=g.facts _ (hasF_mem h5)
      obtain ⟨p,q,rfl,f3,f4⟩:=RL2 f1
      obtain ⟨s',rr,e5,e6⟩:=f2
      have hp':p=i64 (Int.ofNat n):=by
       simp only [N,R,SIok] at f3
       obtain ⟨z',hz',rfl⟩:=f3
       have:z'=Int.ofNat n:=by omega
       rw [this]; rfl
      obtain ⟨zr,rfl,hq⟩:=exI_two h2 r2 f4
      subst hq
      have e7:s'=(n:Int)∧zr=rr:=by
       rw [hp'] at e5
       simp only [i64,List.cons.injEq,and_true,Value.int.injEq,true_and] at e5
       exact ⟨e5.1.symm,e5.2⟩
      have hb1:=Nat.le_of_ble_eq_true h3
      have hb2:=Nat.le_of_ble_eq_true h4
      have hnn:nOn ⟨(n:Int),age,most,came⟩=n:=by simp [nOn]
      refine ⟨⟨n,age,most,came⟩::l,?_,by rw [List.map_cons,e2,hnn],?_,?_⟩
      ·simp only [onCells,List.cons_append,List.nil_append]
       rw [← e7.1,← e6,← e7.2]
      ·rw [List.map_cons,List.nodup_cons]
       refine ⟨fun hm=>hnot ?_,e3⟩
       rw [← e2]
       exact (hasN_map e4).2 hm
      ·intro o ho
       rcases List.mem_cons.1 ho with rfl | ho
       ·exact ⟨by simp only []; omega,⟨a1,a2⟩,⟨m1,m2⟩,c1,c2⟩
       ·exact e4 o ho
    ·cases h
   ·cases h
  ·cases h
theorem G.addNil (g:G X own0 w0 E st w) {nm:Nat} {args:List SV} {vs:List Value} (hoe:(X.T.ownE nm).isSome=true) (hrp:X.RP nm vs []) (hvs:RL E args vs) :
  ∃ E',E.le E'∧R E' (.sl (st.nid+1)) (.slice none 0 0)∧G X own0 w0 E' { st with heap:=(st.nid,.opq)::st.heap,sls:=(st.nid+1,.own st.nid nm (N 0::args))::st.sls,nid:=st.nid+2 } w:=by
 obtain ⟨⟨oe,osz⟩,hoe⟩:=Option.isSome_iff_exists.1 hoe
 have hn1:E (st.nid+1)=none:=g.dom _ (by omega)
 have hle:=Env.le_upd (x:=EV.sl none 0 0) hn1
 have g1:=g.mono hle (fun id hid=>Env.upd_ne _ _ (by omega)) (nid:=st.nid+2) (by omega) (fun id hid=>by
  rw [Env.upd_ne _ _ (by omega)]
  exact g.dom id (by omega))
 have hnone:(E.upd (st.nid+1) (.sl none 0 0)) st.nid=none:=by rw [Env.upd_ne _ _ (by omega)]; exact g.nid_none
 refine ⟨_,hle,by simp only [R]; exact ⟨none,0,0,Env.upd_self _ _ _,rfl⟩,?_⟩
 refine ⟨g1.size,g1.os,g1.tape,g1.output,g1.frame,?_,?_,g1.tab,?_,g1.dom,?_,g1.facts⟩
 ·intro id blk hl'
  simp only [lk_cons] at hl'
  split at hl'
  ·rename_i hh
   cases hl'
   refine .inl ⟨rfl,by simp only; omega,fun m hm=>?_⟩
   rw [hh,hnone] at hm
   cases hm
  ·exact g1.heap id blk hl'
 ·intro id id' b1 b2 m p1 p2 p3 p4
  simp only [lk_cons] at p1 p2
  split at p1
  ·rename_i hh
   rw [hh,hnone] at p3
   cases p3
  ·split at p2
   ·rename_i hh
    rw [hh,hnone] at p4
    cases p4
   ·exact g1.inj id id' b1 b2 m p1 p2 p3 p4
 ·intro id si hl'
  simp only [lk_cons] at hl'
  split at hl'
  ·rename_i hh
   subst hh
   cases hl'
   refine ⟨by simp [lk_cons],none,0,0,.int .i64 0::vs,Env.upd_self _ _ _,?_,fun x hx=>(by cases hx),oe,osz,vs,hoe,rfl,.inl ⟨rfl,rfl,rfl,hrp⟩⟩
   exact RL_cons.2 ⟨RN _ 0,hvs.mono hle⟩
  ·have hs:=g1.sls id si hl'
   cases si with
   | bytes len =>
    obtain ⟨base,ln,cap,q1,q2,q3,q4,q5⟩:=hs
    refine ⟨base,ln,cap,q1,q2,q3,q4,fun x hx=>⟨(q5 x hx).1,fun bid blk hb' hc'=>?_⟩⟩
    simp only [lk_cons] at hb'
    split at hb'
    ·rename_i hh
     rw [hh,hnone] at hc'
     cases hc'
    ·exact (q5 x hx).2 bid blk hb' hc'
   | row b l=>exact hs
   | own b2 nm2 args2 =>
    obtain ⟨q0,q1⟩:=hs
    refine ⟨?_,q1⟩
    simp only [lk_cons]
    have:=g.hid q0
    rw [if_neg (by omega)]
    exact q0
 ·intro gg cs' hg
  obtain ⟨q1,q2,q3⟩:=g1.gl gg cs' hg
  refine ⟨q1,fun id blk hl' hc'=>?_,q3⟩
  simp only [lk_cons] at hl'
  split at hl'
  ·rename_i hh
   rw [hh,hnone] at hc'
   cases hc'
  ·exact q2 id blk hl' hc'
def dropOwn:List (Nat×SlI)→List (Nat×SlI)
 | []=>[]
 | (i,.own _ _ _)::l=>del (dropOwn l) i
 | x::l=>x::dropOwn l
theorem lk_dropOwn:∀ {l:List (Nat×SlI)} {id:Nat} {i:SlI},lk (dropOwn l) id=some i→lk l id=some i∧∀ b nm args,i≠.own b nm args
 | [],id,i,h=>by simp [dropOwn,lk] at h
 | (j,.own b nm args)::l,id,i,h=>by
  simp only [dropOwn,lk_del] at h
  split at h
  ·cases h
  ·rename_i hne
   have:=lk_dropOwn h
   exact ⟨by rw [lk_cons,if_neg hne]; exact this.1,this.2⟩
 | (j,.bytes x)::l,id,i,h=>by
  simp only [dropOwn,lk_cons] at h ⊢
  split at h
  ·rename_i he; cases h; rw [if_pos he]; exact ⟨rfl,fun _ _ _ h=>by cases h⟩
  ·rename_i he; rw [if_neg he]; exact lk_dropOwn h
 | (j,.row x y)::l,id,i,h=>by
  simp only [dropOwn,lk_cons] at h ⊢
  split at h
  ·rename_i he; cases h; rw [if_pos he]; exact ⟨rfl,fun _ _ _ h=>by cases h⟩
  ·rename_i he; rw [if_neg he]; exact lk_dropOwn h
def bitV (st:SE.St) (ns:List Nat) (s:Nat):SV :=
 match lk st.tab (236+s) with
 | some (a,b)=>bif decide (a=bitN ns s)&&decide (b=bitN ns s) then A (236+s) else N (bitN ns s)
 | none=>N (bitN ns s)
theorem bitV_ok (g:G X own0 w0 E st w) (ns:List Nat) (s:Nat):R E (bitV st ns s) (i64 (bitN ns s)):=by
 unfold bitV
 split
 ·rename_i a b hl
  simp only [cond_eq_ite]
  split
  ·rename_i hc
   simp only [Bool.and_eq_true,decide_eq_true_eq] at hc
   obtain ⟨z,hz,h1,h2⟩:=g.tab _ _ _ hl
   have:z=bitN ns s:=by omega
   rw [this] at hz
   exact RA hz
  ·exact RN E _
 ·exact RN E _
def geN (st:SE.St) (m:SV) (n:Nat):Bool :=
 match rng st m with
 | some (.i64,lo,_)=>decide (Int.ofNat n≤lo)
 | _=>false
theorem geN_ok (g:G X own0 w0 E st w) {m:SV} {n:Nat} {v:Value} (h:geN st m n=true) (hr:R E m v):∃ z:Int,v=i64 z∧(n:Int)≤z:=by
 unfold geN at h
 split at h
 ·rename_i lo hi hrg
  simp only [decide_eq_true_eq] at h
  obtain ⟨z,rfl,h1,h2⟩:=rng_ok g hrg hr
  exact ⟨z,rfl,by simp only [Int.ofNat_eq_natCast] at h; omega⟩
 ·cases h
def ownA (st:SE.St) (ns:List Nat) (m:SV):List SV:=[bitV st ns 1,bitV st ns 2,bitV st ns 3,m]
theorem ownA_ok (g:G X own0 w0 E st w) {ns:List Nat} {m:SV} {mz:Int} (hm:R E m (i64 mz)) {l:List On} (hl:∀ o∈l,(1≤o.src∧o.src≤3)∧o.rg) (e:l.map nOn=ns) :
  RL E (ownA st ns m) [i64 (bitOf l 1),i64 (bitOf l 2),i64 (bitOf l 3),i64 mz]:=by
 have hb:=bit_ok hl
 rw [e] at hb
 have b1:=hb 1
 have b2:=hb 2
 have b3:=hb 3
 simp only [Int.natCast_one,Int.cast_ofNat_Int] at b1 b2 b3
 rw [b1,b2,b3]
 exact RL_cons.2 ⟨bitV_ok g ns 1,RL_cons.2 ⟨bitV_ok g ns 2,RL_cons.2 ⟨bitV_ok g ns 3,RL_cons.2 ⟨hm,by simp [RL]⟩⟩⟩⟩
def packQ (st:SE.St):Option SE.St :=
 match lk st.heap 3 with
 | some (.cells e [v,m,c])=>(match v with
  | .nils=>bif geN st m 0 then some { st with heap:=upd ((st.nid,.opq)::st.heap) 3 (.cells e [.sl (st.nid+1),m,c]),sls:=(st.nid+1,.own st.nid 1 (N 0::ownA st [] m))::dropOwn st.sls,nid:=st.nid+2 } else none
  | .sl i=>(match lk st.sls i with
   | some (.row b len)=>(match lk st.heap b with
    | some (.row f sz sid cs)=>bif Nat.beq f 136&&(Nat.beq sz 5&&(Nat.beq sid i&&geN st m len)) then
      (match parseL st cs with
      | some ns=>some { st with heap:=upd ((st.nid,.opq)::del st.heap b) 3 (.cells e [.sl (st.nid+1),m,c]),sls:=(st.nid+1,.own st.nid 1 (N (Int.ofNat len)::ownA st ns m))::dropOwn st.sls,nid:=st.nid+2 }
      | none=>none) else none
    | _=>none)
   | _=>none)
  | _=>none)
 | _=>none
theorem packQ_ok (g:G (Xc pc) own0 w0 E st w) {st':SE.St} (h:packQ st=some st'):∃ E',E.le E'∧G (Xc pc) own0 w0 E' st' w:=by
 unfold packQ at h
 split at h
 ·rename_i e v m c hl3
  have hid3:=g.hid hl3
  rcases g.heap 3 _ hl3 with ⟨h0,_⟩ | ⟨n3,hE3,hn3,hown3,us3,hg3,hr3⟩
  ·cases h0
  obtain ⟨v1,v2,v3,ev,rv,rm,rc⟩:=RL3 hr3
  have less:G (Xc pc) own0 w0 E { st with heap:=st.heap,sls:=dropOwn st.sls } w:=g.less (fun _ _ h=>h) (fun id i h=>(lk_dropOwn h).1) (fun id b nm args h=>absurd rfl ((lk_dropOwn h).2 b nm args))
  split at h
  ·simp only [cond_eq_ite] at h
   split at h
   ·rename_i hge
    cases h
    obtain ⟨mz,rfl,hmz⟩:=geN_ok g hge rm
    have hv:v1=.slice none 0 0:=by simpa only [R] using rv
    subst hv
    obtain ⟨E1,hle,h1,g1⟩:=less.addNil (nm:=1) (args:=ownA st [] m) (vs:=[i64 (bitOf [] 1),i64 (bitOf [] 2),i64 (bitOf [] 3),i64 mz]) rfl
     ⟨[],mz,rfl,by simp,by simp,by simpa using hmz,rfl⟩ (ownA_ok g rm (by simp) rfl)
    refine ⟨E1,hle,g1.setO (id:=3) (n:=n3) (b:=.cells e [.nils,m,c]) (b':=.cells e [.sl (st.nid+1),m,c]) ?_ rfl (hle _ _ hE3) (fun k _=>rfl) rfl rfl rfl rfl ⟨us3,hg3,?_⟩⟩
    ·simp only [lk_cons]
     rw [if_neg (by omega)]
     exact hl3
    ·rw [ev]
     exact RL_cons.2 ⟨h1,RL_cons.2 ⟨rm.mono hle,RL_cons.2 ⟨rc.mono hle,by simp [RL]⟩⟩⟩
   ·cases h
  ·rename_i i
   split at h
   ·rename_i b len hsl
    split at h
    ·rename_i f sz sid cs hlb
     simp only [cond_eq_ite] at h
     split at h
     ·rename_i hc
      simp only [Bool.and_eq_true] at hc
      obtain ⟨h1,h2,h3,h4⟩:=hc
      have h1:=nbeq h1
      have h2:=nbeq h2
      have h3:=nbeq h3
      subst h1 h2 h3
      split at h
      ·rename_i ns hps
       cases h
       obtain ⟨mz,rfl,hmz⟩:=geN_ok g h4 rm
       obtain ⟨n,cap,hEb,hEs⟩:=g.sls _ _ hsl
       rcases g.heap b _ hlb with ⟨h0,_⟩ | ⟨n',hEb',hn,hown,us,len',cap',hg,hEs',hsz,hcs,hlc,hr⟩
       ·cases h0
       rw [hEb] at hEb'
       cases hEb'
       rw [hEs] at hEs'
       cases hEs'
       have hown':own0 n∨w0.heap.size≤n:=by
        rcases hown with h | h
        ·cases h
        ·exact h
       obtain ⟨l,e1,e2,e3,e4⟩:=parseL_ok g hps hr
       have hb3:b≠3:=fun hh=>by subst hh; rw [hl3] at hlb; cases hlb
       have g0:G (Xc pc) own0 w0 E { st with heap:=del st.heap b,sls:=dropOwn st.sls } w:=g.less (fun id blk h=>by
        rw [lk_del] at h
        split at h
        ·cases h
        ·exact h) (fun id i h=>(lk_dropOwn h).1) (fun id b nm args h=>absurd rfl ((lk_dropOwn h).2 b nm args))
       have hll:l.length=len:=by
        have:=congrArg List.length e1
        have hus:us.toList.length=cap*5:=by rw [← hsz]; rfl
        rw [List.length_take,onCells_length,hus,hcs] at this
        have:len*5≤cap*5:=Nat.mul_le_mul_right 5 hlc
        omega
       have hv:v1=.slice (some ⟨n,0,none⟩) len cap:=by
        simp only [R] at rv
        obtain ⟨b1,l1,c1,q1,rfl⟩:=rv
        rw [hEs] at q1
        cases q1
        rfl
       subst hv
       obtain ⟨E1,hle,p1,g1⟩:=g0.addOwn (n:=n) (nm:=1) (len:=len) (cap:=cap) (args:=N (Int.ofNat len)::ownA st ns m) (vs:=i64 (Int.ofNat len)::[i64 (bitOf l 1),i64 (bitOf l 2),i64 (bitOf l 3),i64 mz]) hn hown'
        (fun id blk h hE=>by
         simp only [lk_del] at h
         split at h
         ·cases h
         ·rename_i hne
          exact hne (g.inj id b _ _ n h hlb hE hEb))
        (fun id x base ln c h hE p hp=>by
         obtain ⟨base',ln',cap',k1,k2,k3,k4,k5⟩:=g.sls id _ (lk_dropOwn h).1
         rw [hE] at k1
         cases k1
         exact fun hh=>(k5 p hp).2 b _ hlb (by rw [hEb,hh]))
        (fun gg cs h hh=>(g.gl gg cs h).2.1 b _ hlb (by rw [hEb,hh]))
        ⟨136,5,_,rfl,rfl,.inr ⟨n,us,rfl,hg,hsz,hlc,by
         rw [hcs] at e1
         rw [e1]
         exact ⟨l,mz,rfl,e3,e4,by rw [hll]; exact hmz,rfl⟩⟩⟩
        (RL_cons.2 ⟨RN E _,ownA_ok g rm e4 e2⟩)
       refine ⟨E1,hle,g1.setO (id:=3) (n:=n3) (b:=.cells e [.sl sid,m,c]) (b':=.cells e [.sl (st.nid+1),m,c]) ?_ rfl (hle _ _ hE3) (fun k _=>rfl) rfl rfl rfl rfl ⟨us3,hg3,?_⟩⟩
       ·simp only [lk_cons,lk_del]
        rw [if_neg (by omega),if_neg (fun hh=>hb3 hh.symm)]
        exact hl3
       ·rw [ev]
        exact RL_cons.2 ⟨p1,RL_cons.2 ⟨rm.mono hle,RL_cons.2 ⟨rc.mono hle,by simp [RL]⟩⟩⟩
      ·cases h
     ·cases h
    ·cases h
   ·cases h
  ·cases h
 ·cases h
def packFits (L:Nat) (outs:Out):Out→Bool
 | []=>true
 | o::l=>(match packQ o.2 with
  | some st=>fStK st fun st=>anyCase L [] (o.1,st) outs
  | none=>false)&&packFits L outs l
def qFits (L:Nat) (outs:Out):Option Out→Bool
 | some l=>packFits L outs l
 | none=>false
noncomputable def TQ (ks:List (Nat×(List SV→SE.St→Option Out))):Tb:={ TL ks (fun g=>Nat.beq g 131) false with inv:=invT }
noncomputable def XQ (pc:Array Value) (ks:List (Nat×(List SV→SE.St→Option Out))):Px:=⟨Tryz.prog,TQ ks,UFc pc,RPc pc⟩
variable {ks:List (Nat×(List SV→SE.St→Option Out))}
theorem tblQ:Tbl (Xc pc) (XQ pc ks):=⟨rfl,rfl,rfl,rfl,rfl⟩
theorem tabq:TabOk (XQ pc ks):=tab_ok rfl rfl rfl (fun t nm r h=>h) (fun nm args h E vs hr=>emp_ok (pc:=pc) nm args h E vs hr) (fun gg cs h=>glc_ok (pc:=pc) gg cs h) (fun t h=>by simp [XQ,TQ,TL,TC] at h)
theorem pkq:PkOk (XQ pc ks) where
 fn:=fun g h=>pkc (pc:=pc).fn g h
 ok:=fun g args st v hg h own0 w0 E w g' vals hr=>pkc (pc:=pc).ok g args st v hg h own0 w0 E w (g'.tbl tblQ.symm) vals hr
theorem rkq:RkOk (XQ pc ks) where
 fn:=fun g h=>rkc (pc:=pc).fn g h
 app:=fun nm args new st args' h own0 w0 E w g vs us ns=>appc (pc:=pc) nm args new st args' h own0 w0 E w (g.tbl tblQ.symm) vs us ns
 ok:=fun g args st v hg h own0 w0 E w g' vals hr=>rkc (pc:=pc).ok g args st v hg h own0 w0 E w (g'.tbl tblQ.symm) vals hr
theorem packFits_ok {L:Nat} {outs:Out}:∀ {l:Out},packFits L outs l=true→∀ o∈l,∃ st,packQ o.2=some st∧anyCase L [] (o.1,st) outs=true
 | x::l,h,o,ho=>by
  simp only [packFits,Bool.and_eq_true] at h
  rcases List.mem_cons.1 ho with rfl | ho
  ·have h1:=h.1
   split at h1
   ·rename_i st hs
    rw [fStK_eq] at h1
    exact ⟨st,hs,h1⟩
   ·cases h1
  ·exact packFits_ok h.2 o ho
def TfOk (tf:List Nat→List (List (Nat×Int×Int))):Prop:=∀ x y z:Nat,x<5→y<5→z<5→x≠y→x≠z→y≠z→∀ l∈allSeqs,∃ tb∈tf l,tbIn (rAt x y z) tb=true
theorem q_run (hp:PolFit pc) (hK:KAll (Xc pc) ks) {L gi:Nat} {args:List SV} {outs:Out} {S:SE.St} (e:qFits L outs (run (TQ ks) 60 gi args S)=true)
  {E:Env} {vals:Array Value} (g:G (Xc pc) own0 w0 E S w) (hr:RL E args vals.toList):Calls Tryz.prog gi vals w (Outs (Xc pc) own0 w0 E outs):=by
 cases hrun:run (TQ ks) 60 gi args S with
 | none=>rw [hrun] at e; cases e
 | some l =>
  rw [hrun] at e
  refine (run_ok (X:=XQ pc ks) tabq pkq rkq (kok (hK.tbl tblQ) rfl own0 w0) 60 hrun (g.tbl tblQ) hr).mono fun e' w' he=>?_
  obtain ⟨o,ho,E1,x,h1,h2,h3,h4⟩:=he
  obtain ⟨st,hs,ha⟩:=packFits_ok e o ho
  obtain ⟨E2,hle,g2⟩:=packQ_ok (h4.tbl tblQ.symm) hs
  obtain ⟨p,hp',E3,k1,k2,k3⟩:=anyCase_ok (fun gg cs h=>glc_ok (pc:=pc) gg cs h) (fzc hp) ha (h3.mono hle) g2
  exact ⟨p,hp',E3,x,Env.le_trans h1 (Env.le_trans hle k1),h2,k2,k3⟩
theorem q_sm (hp:PolFit pc) (hK:KAll (Xc pc) ks) {L gi:Nat} {args:List SV} {outs:Out} {tf:List Nat→List (List (Nat×Int×Int))} (htf:TfOk tf) (hn:nodupO outs=true)
  (h0:qFits L outs (run (TQ ks) 60 gi args (qNil xt xf))=true) (h1:∀ l∈allSeqs,∀ tb∈tf l,qFits L outs (run (TQ ks) 60 gi args (qRow xt xf tb l))=true):SmOk (Xc pc) gi ⟨qOwn xt xf,args,outs⟩:=by
 refine ⟨nodupO_ok hn,fun own0 w0 E w vals g hr=>?_⟩
 obtain ⟨E1,hle,hg⟩:=q_open hp g
 have fin:Calls Tryz.prog gi vals w (Outs (Xc pc) own0 w0 E1 outs):=by
  rcases hg with g' | ⟨l,hl,x,y,z,hx,hy,hz,d1,d2,d3,hg⟩
  ·exact q_run hp hK h0 g' (hr.mono hle)
  ·obtain ⟨tb,ht,hin⟩:=htf x y z hx hy hz d1 d2 d3 l hl
   exact q_run hp hK (h1 l hl tb ht) (hg tb hin) (hr.mono hle)
 refine Calls.mono fin fun e w' he=>?_
 obtain ⟨o,ho,E2,v,k1,k2⟩:=he
 exact ⟨o,ho,E2,v,Env.le_trans hle k1,k2⟩
def pairs (a b:Nat):List (List (Nat×Int×Int)):=[[(299+a,0,0),(299+b,1,4)],[(299+a,1,1),(299+b,2,4)],[(299+a,2,2),(299+b,3,4)],[(299+a,3,3),(299+b,4,4)]]
def trips (a b c:Nat):List (List (Nat×Int×Int)):=[[(299+a,0,0),(299+b,1,1),(299+c,2,4)],[(299+a,0,1),(299+b,2,2),(299+c,3,4)],[(299+a,0,2),(299+b,3,3),(299+c,4,4)]]
def tb1 (l:List Nat):List (List (Nat×Int×Int)) :=
 match l with
 | []=>[[]]
 | [a]=>[[(299+a,0,4)]]
 | [a,b]=>pairs a b++pairs b a
 | [a,b,c]=>trips a b c++(trips a c b++(trips b a c++(trips b c a++(trips c a b++trips c b a))))
 | _=>[]
def tb0 (l:List Nat):List (List (Nat×Int×Int)):=[[(300,0,4),(301,0,4),(302,0,4)]]
def anyTb (f:Nat→Int):List (List (Nat×Int×Int))→Bool
 | []=>false
 | tb::l=>tbIn f tb||anyTb f l
theorem anyTb_ok {f:Nat→Int}:∀ {l:List (List (Nat×Int×Int))},anyTb f l=true→∃ tb∈l,tbIn f tb=true
 | tb::l,h=>by
  simp only [anyTb,Bool.or_eq_true] at h
  rcases h with h | h
  ·exact ⟨tb,List.mem_cons_self,h⟩
  ·obtain ⟨t,h1,h2⟩:=anyTb_ok h
   exact ⟨t,List.mem_cons_of_mem _ h1,h2⟩
def allSq (f:Nat→Int) (tf:List Nat→List (List (Nat×Int×Int))):List (List Nat)→Bool
 | []=>true
 | l::ls=>anyTb f (tf l)&&allSq f tf ls
theorem allSq_ok {f:Nat→Int} {tf:List Nat→List (List (Nat×Int×Int))}:∀ {ls:List (List Nat)},allSq f tf ls=true→∀ l∈ls,anyTb f (tf l)=true
 | x::ls,h,l,hl=>by
  simp only [allSq,Bool.and_eq_true] at h
  rcases List.mem_cons.1 hl with rfl | hl
  ·exact h.1
  ·exact allSq_ok h.2 l hl
def allR (tf:List Nat→List (List (Nat×Int×Int))):Bool :=
 (List.range 5).all fun x=>(List.range 5).all fun y=>(List.range 5).all fun z=>(Nat.beq x y||(Nat.beq x z||Nat.beq y z))||allSq (rAt x y z) tf allSeqs
theorem tf_of {tf:List Nat→List (List (Nat×Int×Int))} (h:allR tf=true):TfOk tf:=by
 intro x y z hx hy hz d1 d2 d3 l hl
 simp only [allR,List.all_eq_true,List.mem_range] at h
 have:=h x hx y hy z hz
 simp only [Bool.or_eq_true] at this
 rcases this with (e | e | e) | e
 ·exact absurd (nbeq e) d1
 ·exact absurd (nbeq e) d2
 ·exact absurd (nbeq e) d3
 ·exact anyTb_ok (allSq_ok e l hl)
theorem tb1_ok:TfOk tb1:=tf_of (by decide +kernel)
theorem tb0_ok:TfOk tb0:=tf_of (by decide +kernel)
def allB2 {α:Type} (f:α→Bool):List α→Bool
 | []=>true
 | x::l=>f x&&allB2 f l
theorem allB2_ok {α:Type} {f:α→Bool}:∀ {l:List α},allB2 f l=true→∀ x∈l,f x=true
 | y::l,h,x,hx=>by
  simp only [allB2,Bool.and_eq_true] at h
  rcases List.mem_cons.1 hx with rfl | hx
  ·exact h.1
  ·exact allB2_ok h.2 x hx
noncomputable abbrev kQ:List (Nat×(List SV→SE.St→Option Out)):=[(176,kLen)]
noncomputable def qAll (L:Nat) (tf:List Nat→List (List (Nat×Int×Int))) (gi:Nat) (args:List SV) (xt:List (Nat×Int×Int)) (xf:List (Nat×List SV)) (outs:Out) (ls:List (List Nat)):Bool :=
 allB2 (fun l=>allB2 (fun tb=>qFits L outs (run (TQ kQ) 60 gi args (qRow xt xf tb l))) (tf l)) ls
def seqA:List (List Nat):=[[],[1],[2],[3],[1,2],[2,1],[1,3],[3,1],[2,3],[3,2]]
def seqB:List (List Nat):=[[1,2,3],[1,3,2],[2,1,3],[2,3,1],[3,1,2],[3,2,1]]
theorem seq_cases {l:List Nat} (h:l∈allSeqs):l∈seqA∨l∈seqB:=by
 have:allSeqs=seqA++seqB:=rfl
 rw [this] at h
 exact List.mem_append.1 h
theorem q_smA (hp:PolFit pc) {L gi:Nat} {args:List SV} {outs:Out} {tf:List Nat→List (List (Nat×Int×Int))} (htf:TfOk tf) (hn:nodupO outs=true)
  (h0:qFits L outs (run (TQ kQ) 60 gi args (qNil xt xf))=true) (h1:qAll L tf gi args xt xf outs seqA=true) (h2:qAll L tf gi args xt xf outs seqB=true):SmOk (Xc pc) gi ⟨qOwn xt xf,args,outs⟩ :=
 q_sm hp (ks:=kQ) ⟨k_len,trivial⟩ htf hn h0 fun l hl tb ht=>by
  rcases seq_cases hl with hl | hl
  ·exact allB2_ok (allB2_ok h1 l hl) tb ht
  ·exact allB2_ok (allB2_ok h2 l hl) tb ht
theorem qAll_app {L gi:Nat} {tf:List Nat→List (List (Nat×Int×Int))} {args:List SV} {xt:List (Nat×Int×Int)} {xf:List (Nat×List SV)} {outs:Out}:∀ {l m:List (List Nat)},
  qAll L tf gi args xt xf outs l=true→qAll L tf gi args xt xf outs m=true→qAll L tf gi args xt xf outs (l++m)=true
 | [],m,_,h=>h
 | x::l,m,h1,h2=>by
  simp only [qAll,allB2,List.cons_append,Bool.and_eq_true] at *
  exact ⟨h1.1,qAll_app h1.2 h2⟩
theorem bits_cases (g:G X own0 w0 E st w) {id:Nat} (h:lk st.tab id=some (0,1)):G X own0 w0 E { st with tab:=upd st.tab id (0,0) } w∨G X own0 w0 E { st with tab:=upd st.tab id (1,1) } w:=by
 obtain ⟨z,hz,h1,h2⟩:=g.tab _ _ _ h
 by_cases h0:z=0
 ·exact .inl (g.setTab hz (by omega) (by omega))
 ·exact .inr (g.setTab hz (by omega) (by omega))
end SE
end
section
namespace SE
open Go.RowKit
set_option maxHeartbeats 0
def qHp:List (Nat×Blk):=[(3,.cells 158 [.sl 1030,A 148,C64]),(1005,.opq)]
def qSl (b1 b2 b3:SV):Nat×SlI:=(1030,.own 1005 1 [U 0 3,b1,b2,b3,A 148])
def qTb (r1 r2 r3:Int×Int):List (Nat×Int×Int):=[(148,1,3),(237,r1.1,r1.2),(238,r2.1,r2.2),(239,r3.1,r3.2)]
def qSt (b1 b2 b3:SV) (r1 r2 r3:Int×Int):SE.St:=⟨qHp,qTb r1 r2 r3,[qSl b1 b2 b3],1070,[]⟩
def q01:Int×Int:=(0,1)
def q00:Int×Int:=(0,0)
def q11:Int×Int:=(1,1)
def dropO (s:Nat):Out :=
 match s with
 | 1=>[(.bool,qSt (N 0) (A 238) (A 239) q01 q01 q01)]
 | 2=>[(.bool,qSt (A 237) (N 0) (A 239) q01 q01 q01)]
 | 3=>[(.bool,qSt (A 237) (A 238) (N 0) q01 q01 q01)]
 | _=>[(.ff,qSt (A 237) (A 238) (A 239) q01 q01 q01)]
def dropA (s:Nat):List SV:=[.ptr 3 0,N (Int.ofNat s)]
def dropM (s:Nat):Sm:=⟨qOwn [] [],dropA s,dropO s⟩
noncomputable def dropR (s:Nat):Bool:=nodupO (dropO s)&&(qFits 1000 (dropO s) (run (TQ kQ) 60 81 (dropA s) (qNil [] []))&&(qAll 1000 tb0 81 (dropA s) [] [] (dropO s) seqA&&qAll 1000 tb0 81 (dropA s) [] [] (dropO s) seqB))
def pushT:List (Nat×Int×Int):=[(150,-1,4)]
def pushF (s:Nat):List (Nat×List SV):=[(5,[N (Int.ofNat s),A 150])]
def pushA (s:Nat):List SV:=[.ptr 3 0,.agg [N (Int.ofNat s),A 150,I64,I64]]
def pushO (s:Nat):Out :=
 match s with
 | 1=>[(N 27,qSt (A 237) (A 238) (A 239) q11 q01 q01),(N 3,qSt (A 237) (A 238) (A 239) q00 q01 q01),(N 0,qSt (N 1) (A 238) (A 239) q00 q01 q01)]
 | 2=>[(N 27,qSt (A 237) (A 238) (A 239) q01 q11 q01),(N 3,qSt (A 237) (A 238) (A 239) q01 q00 q01),(N 0,qSt (A 237) (N 1) (A 239) q01 q00 q01)]
 | _=>[(N 27,qSt (A 237) (A 238) (A 239) q01 q01 q11),(N 3,qSt (A 237) (A 238) (A 239) q01 q01 q00),(N 0,qSt (A 237) (A 238) (N 1) q01 q01 q00)]
def pushM (s:Nat):Sm:=⟨qOwn pushT (pushF s),pushA s,pushO s⟩
noncomputable def pushR (s:Nat):Bool:=nodupO (pushO s)&&(qFits 1000 (pushO s) (run (TQ kQ) 60 205 (pushA s) (qNil pushT (pushF s)))&&(qAll 1000 tb0 205 (pushA s) pushT (pushF s) (pushO s) seqA&&qAll 1000 tb0 205 (pushA s) pushT (pushF s) (pushO s) seqB))
def headA:List SV:=[.ptr 3 0]
def headO:Out :=
 [(.tup [.agg [N 0,N 0,N 0,N 0],N 2],qSt (A 237) (A 238) (A 239) q00 q00 q00),(.tup [.agg [N 1,I64,I64,I64],N 0],qSt (A 237) (A 238) (A 239) q11 q01 q01),
   (.tup [.agg [N 2,I64,I64,I64],N 0],qSt (A 237) (A 238) (A 239) q01 q11 q01),(.tup [.agg [N 3,I64,I64,I64],N 0],qSt (A 237) (A 238) (A 239) q01 q01 q11)]
def headM:Sm:=⟨qOwn [] [],headA,headO⟩
noncomputable def smR (L:Nat) (tf:List Nat→List (List (Nat×Int×Int))) (gi:Nat) (outs:Out) (ls:List (List Nat)):Bool:=qAll L tf gi headA [] [] outs ls
noncomputable def smN (L gi:Nat) (outs:Out):Bool:=nodupO outs&&qFits L outs (run (TQ kQ) 60 gi headA (qNil [] []))
def srtF:List Nat→List (Nat×List SV)
 | a::b::l=>(6,[N (Int.ofNat a),N (Int.ofNat b)])::srtF (b::l)
 | _=>[]
def bitR (l:List Nat) (s:Nat):Int×Int:=(bitN l s,bitN l s)
def listO1 (l:List Nat):SV×SE.St :=
 match l with
 | []=>(.nils,qSt (A 237) (A 238) (A 239) q00 q00 q00)
 | l=>(.sl 1041,⟨(1040,.row 112 4 1041 (askCells l))::qHp,qTb (bitR l 1) (bitR l 2) (bitR l 3),[(1041,.row 1040 l.length),qSl (A 237) (A 238) (A 239)],1070,srtF l⟩)
def listO:Out:=allSeqs.map listO1
def listM:Sm:=⟨qOwn [] [],headA,listO⟩
def goneT:Nat→List (Nat×Int×Int)
 | 0=>[]
 | n+1=>(1061+n,1,3)::goneT n
def tickT:List (Nat×Int×Int):=[(1051,0,1),(1052,0,1),(1053,0,1),(148,1,3),(237,0,1),(238,0,1),(239,0,1)]
def tickF:List (Nat×List SV):=[(7,[A 1051,A 237]),(7,[A 1052,A 238]),(7,[A 1053,A 239])]
def tickS:Nat×SlI:=qSl (A 1051) (A 1052) (A 1053)
def tickO1 (n:Nat):SV×SE.St :=
 match n with
 | 0=>(.nils,⟨qHp,tickT,[tickS],1070,tickF⟩)
 | n=>(.sl 1041,⟨(1040,.row 112 4 1041 (goneCells 1061 n))::qHp,goneT n++tickT,[(1041,.row 1040 n),tickS],1070,tickF⟩)
def tickO:Out:=[tickO1 0,tickO1 1,tickO1 2,tickO1 3]
def tickM:Sm:=⟨qOwn [] [],headA,tickO⟩
def dropSel (args:List SV) (st:SE.St):Option (List SV→SE.St→Option Out) :=
 match args with
 | [_,s]=>match cstN st s with
  | some n=>bif Nat.blt n 5 then some (fN n fun n=>kSm (dropM n) [] true) else none
  | none=>none
 | _=>none
def kDrop' (args:List SV) (st:SE.St):Option Out:=match dropSel args st with | some kf=>kf args st | none=>none
def pushSel (args:List SV) (st:SE.St):Option (List SV→SE.St→Option Out) :=
 match args with
 | [_,.agg (s::_)]=>match cstN st s with
  | some n=>bif Nat.ble 1 n&&Nat.ble n 3 then some (fN n fun n=>kSm (pushM n) [] true) else none
  | none=>none
 | _=>none
def kPush' (args:List SV) (st:SE.St):Option Out:=match pushSel args st with | some kf=>kf args st | none=>none
def kHead':List SV→SE.St→Option Out:=kSm headM [] true
def kList':List SV→SE.St→Option Out:=kSm listM [] true
def kTick':List SV→SE.St→Option Out:=kSm tickM [] true
def sHp:List (Nat×Blk):=[(3,.cells 158 [.sl 430,A 148,C64]),(405,.opq)]
def sTb (l:List Nat):List (Nat×Int×Int):=[(148,mostN l,3),(237,bitN l 1,bitN l 1),(238,bitN l 2,bitN l 2),(239,bitN l 3,bitN l 3)]
def sSl:Nat×SlI:=(430,.own 405 1 [U 0 3,A 237,A 238,A 239,A 148])
def lineO:List Nat→List SV
 | []=>[]
 | s::l=>N (Int.ofNat s)::A (450+s)::I64::I64::C64::lineO l
def rankT:List Nat→List (Nat×Int×Int)
 | []=>[]
 | s::l=>(450+s,0,4)::rankT l
def rankF:List Nat→List (Nat×List SV)
 | []=>[]
 | s::l=>(5,[N (Int.ofNat s),A (450+s)])::rankF l
def sortO1 (l:List Nat):Out :=
 match l with
 | []=>[(.nils,⟨sHp,qTb q00 q00 q00,[sSl],470,[]⟩),(.slc 305 0 0 0,⟨(305,.cells 136 [])::sHp,qTb q00 q00 q00,[sSl],470,[]⟩)]
 | l=>[(.sl 441,⟨(440,.row 136 5 441 (lineO l))::sHp,rankT l++sTb l,[(441,.row 440 l.length),sSl],470,rankF l++srtF l⟩)]
def sortO:Out:=allSeqs.flatMap sortO1
def sortM:Sm:=⟨qOwn [] [],headA,sortO⟩
def kSorted:List SV→SE.St→Option Out:=kSm sortM [] true
noncomputable abbrev kQ2:List (Nat×(List SV→SE.St→Option Out)):=[(54,kSorted)]
noncomputable def listR:Bool:=runFits 1000 [] listO (run (TL kQ2 (fun _=>false) false) 60 38 headA (qOwn [] []))
def qBits (a b c:Int):SE.St:=⟨[(3,.cells 158 [.sl 30,A 148,C64]),(5,.opq)],[(148,1,3),(237,a,a),(238,b,b),(239,c,c)],[(30,.own 5 1 qArgs)],300,[]⟩
noncomputable def tickR (a b c:Int):Bool:=qFits 1000 tickO (run (TQ kQ2) 60 88 headA (qBits a b c))
end SE
end
section
namespace SE
open Go.RowKit
set_option maxHeartbeats 0
def recX (n:Int) (ws en:List SV):List SV:=[U 0 n,A 240,A 241,A 242,A 243,A 244,A 245]++flags3++ws++en
def scTab:List (Nat×Int×Int):=(List.range 6).map fun i=>(240+i,0,1)
def scX (n:Int) (ws en:List SV) (tb:List (Nat×Int×Int)) (fs:List (Nat×List SV)):SE.St where
 heap:=(4,.cells 88 [.ptr 1 0,.sl 31,.sl 32])::(6,.opq)::(7,.opq)::coreHeap
 tab:=tb++scTab++polTab++coreTab
 sls:=(31,.own 6 3 [U 0 n])::(32,.own 7 2 (recX n ws en))::coreSls
 nid:=300
 facts:=fs++coreFacts
def en0:List SV:=[N 0,N 0,N 0]
def exX (n:Int) (en:List SV) (tb:List (Nat×Int×Int)):SE.St:=scX n bits3 en tb []
def lateF:List (Nat×List SV):=[(7,[A 237,A 246]),(7,[A 238,A 247]),(7,[A 239,A 248])]
def lateT:List (Nat×Int×Int):=[(246,0,1),(247,0,1),(248,0,1)]
def ltX (n:Int) (en:List SV):SE.St:=scX n waits3 en lateT lateF
def keepN (id:Nat):Bool:=Nat.ble id 4||((Nat.ble 21 id&&Nat.ble id 24)||((Nat.ble 100 id&&Nat.ble id 155)||(Nat.ble 240 id&&Nat.ble id 245)))
def lfN (id:Nat):Rn:=bif keepN id then .nm id else fN (100000+id) fun n=>.nm n
def roleF (en:List SV):List (Nat×List SV) :=
 match en with
 | [a,b,c]=>[(12,[a,A 100231,A 100234,A 234]),(12,[b,A 100232,A 100235,A 235]),(12,[c,A 100233,A 100236,A 236])]
 | _=>[]
def upX (S:SE.St) (fs:List (Nat×List SV)):SE.St :=
 { heap:=mvH lfN S.heap,tab:=mvT lfN S.tab,sls:=mvS true lfN S.sls,nid:=100400,facts:=fs++mvF lfN S.facts }
def exO (n:Int):SE.St:=upX (exX n en0 []) (roleF en0)
def msgX (k t:SV):SV:=.agg [k,U 0 4294967295,A 301,t,U 0 65535,A 303,A 304,.bool,U (-32768) 32767,U (-32768) 32767,U (-32768) 32767,U (-32768) 32767]
def inX (S:SE.St) (tb:List (Nat×Int×Int)):SE.St:={ S with tab:=tb++((301,0,3)::(303,0,4)::S.tab),nid:=310 }
def onX (l:Nat) (c:Int):SE.St:=inX (exX 0 en0 []) [(230+l,1,1),(304,c,3)]
def byX:SE.St:={ exX 0 en0 [] with tab:=(299,0,32)::(exX 0 en0 []).tab,sls:=(25,.bytes (.a 299))::(exX 0 en0 []).sls }
noncomputable abbrev kScene:List (Nat×(List SV→SE.St→Option Out)) :=
 [(65,kCl nextA (rep 32 byteCell)),(38,kList'),(81,kDrop'),(88,kTick'),(90,kLimit),(101,kMsg'),(102,kTakes),(105,kHear'),(108,kOpen'),(109,kSee),(122,kSet),(124,kHear'),(150,kKey [I64,I64] 8),
   (151,kPutReply'),(152,kPut'),(153,kKey [I64,I64,bytesS 8] 8),(155,kKey [I64,I64,bytesS 8] 32),(168,kMay),(169,kGoes),(204,kHigher),(205,kPush'),(206,kRank),(215,kHead')]
end SE
end
section
namespace SE
open Go.RowKit
set_option maxHeartbeats 0
def startT:List (Nat×Int×Int):=[(301,0,3),(142,1,1000),(149,1,3),(230,0,1),(231,0,1),(232,0,1),(233,0,1),(234,0,3),(235,0,3),(236,0,3)]
def startS:SE.St:=⟨[(2,.cells 145 tableCells)],startT,[],310,[(10,flags3++[A 149])]⟩
def startA (l:Nat):List SV:=[.ptr 2 0,N (Int.ofNat l),A 301,bytesS 32]
def sessNew:List SV:=[.tt,U 0 1000,U 0 1000,A 301]++rep 32 byteCell++[.bool,U 0 4294967295,.int .u64 (.a 1270)]
def tableNew (l:Nat):List SV :=
 match l with
 | 1=>[.cmp .ne 230 0,U 0 1000,U 0 1000]++sessNew++sessCells 232 235 271++sessCells 233 236 272++[A 142,A 149]
 | 2=>[.cmp .ne 230 0,U 0 1000,U 0 1000]++sessCells 231 234 270++sessNew++sessCells 233 236 272++[A 142,A 149]
 | _=>[.cmp .ne 230 0,U 0 1000,U 0 1000]++sessCells 231 234 270++sessCells 232 235 271++sessNew++[A 142,A 149]
def flagsNew (l:Nat):List SV :=
 match l with
 | 1=>[N 1,A 232,A 233]
 | 2=>[A 231,N 1,A 233]
 | _=>[A 231,A 232,N 1]
def startO (l:Nat):Out :=
 [(U 1 40,⟨[(2,.cells 145 tableCells)],startT,[],1300,[]⟩),(N 0,⟨[(2,.cells 145 (tableNew l))],startT,[],1300,[(10,flagsNew l++[A 149])]⟩)]
def startM (l:Nat):Sm:=⟨startS,startA l,startO l⟩
noncomputable def startR (l:Nat):Bool:=runFits 1000 [] (startO l) (run (TL [] joinT false) 60 107 (startA l) startS)
def startSel (args:List SV) (st:SE.St):Option (List SV→SE.St→Option Out) :=
 match args with
 | [_,s,_,_]=>match cstN st s with
  | some n=>bif Nat.ble 1 n&&Nat.ble n 3 then some (fN n fun n=>kSm (startM n) [] true) else none
  | none=>none
 | _=>none
def kStart (args:List SV) (st:SE.St):Option Out:=match startSel args st with | some kf=>kf args st | none=>none
def enL (l:Nat):List SV :=
 match l with
 | 1=>[N 1,N 0,N 0]
 | 2=>[N 0,N 1,N 0]
 | _=>[N 0,N 0,N 1]
def enO (l:Nat):SE.St:=upX (exX 4 (enL l) []) (roleF (enL l))
noncomputable abbrev kScene2:List (Nat×(List SV→SE.St→Option Out)):=(107,kStart)::kScene
end SE
end
section
namespace SE
open Go.RowKit
set_option maxHeartbeats 0
def joinP (g:Nat):Bool:=hasN [128,119,134,106] g
def joinA (g:Nat):Bool:=hasN [128,119,134,165,121] g
def exL:Out:=[(.tup [],exO 4)]
def exE (l:Nat):Out:=[(.tup [],exO 4),(.tup [],enO l)]
noncomputable def sayR (jn:Nat→Bool) (gi:Nat) (m:Sm):Bool:=runFits 100000 namedC m.outs (run (TL kScene2 jn false) 60 gi m.args m.S)
def rejectM (l:Nat):Sm:=⟨exX 0 en0 [],[.ptr 4 0,N (Int.ofNat l),U 1 100],exL⟩
def helloM (l:Nat):Sm:=⟨byX,[.ptr 4 0,N (Int.ofNat l),.sl 25],exL⟩
def proveM (l:Nat):Sm:=⟨byX,[.ptr 4 0,N (Int.ofNat l),.sl 25],exE l⟩
def beatM (l:Nat):Sm:=⟨onX l 0,[.ptr 4 0,N (Int.ofNat l),msgX (N 3) (U 0 4)],exL⟩
def byeM (l:Nat):Sm:=⟨onX l 0,[.ptr 4 0,N (Int.ofNat l),msgX (N 4) (U 0 4)],exL⟩
def askM (l:Nat):Sm:=⟨onX l 0,[.ptr 4 0,N (Int.ofNat l),msgX (N 5) (U 0 4)],exL⟩
def offer0M (l:Nat):Sm:=⟨onX l 0,[.ptr 4 0,N (Int.ofNat l),msgX (N 6) (N 0)],exL⟩
def offer1M (l:Nat):Sm:=⟨onX l 0,[.ptr 4 0,N (Int.ofNat l),msgX (N 6) (N 1)],exL⟩
def offer2M (l:Nat):Sm:=⟨onX l 0,[.ptr 4 0,N (Int.ofNat l),msgX (N 6) (N 2)],exL⟩
def offer3M (l:Nat):Sm:=⟨onX l 0,[.ptr 4 0,N (Int.ofNat l),msgX (N 6) (N 3)],exL⟩
def offer4M (l:Nat):Sm:=⟨onX l 0,[.ptr 4 0,N (Int.ofNat l),msgX (N 6) (N 4)],exL⟩
def acceptM (l:Nat):Sm:=⟨onX l 0,[.ptr 4 0,N (Int.ofNat l),msgX (N 7) (U 0 4)],exL⟩
def denyM (l:Nat):Sm:=⟨onX l 0,[.ptr 4 0,N (Int.ofNat l),msgX (N 8) (U 0 4)],exL⟩
def releaseM (l:Nat):Sm:=⟨onX l 0,[.ptr 4 0,N (Int.ofNat l),msgX (N 9) (U 0 4)],exL⟩
def modeM (l:Nat):Sm:=⟨onX l 0,[.ptr 4 0,N (Int.ofNat l),msgX (N 10) (U 0 4)],exL⟩
def pointM (l:Nat):Sm:=⟨onX l 1,[.ptr 4 0,N (Int.ofNat l),msgX (N 11) (U 0 4)],exL⟩
end SE
end
section
namespace SE
variable {X Y:Px} {own0:Nat→Prop} {w0 w:World} {E:Env} {st S:SE.St} {pc:Array Value} {ks:List (Nat×(List SV→SE.St→Option Out))} {jn:Nat→Bool} {nb:Bool}
def pairVs6 {α:Type} (L:Nat):List SV→List SV→List (Nat×Rn)→(List (Nat×Rn)→α)→α
 | x::l,y::m,acc,k=>pairMv5 L x y acc fun acc=>pairVs6 L l m acc k
 | _,_,acc,k=>k acc
def pairMv6 {α:Type} (L:Nat) (x y:SV) (acc:List (Nat×Rn)) (k:List (Nat×Rn)→α):α :=
 match x,y with
 | .tup l,.tup m=>pairVs6 L l m acc k
 | x,y=>pairMv5 L x y acc k
theorem pairVs6_acc {α:Type} {P:α→Prop} {L:Nat}:∀ {l m:List SV} {acc:List (Nat×Rn)} {k:List (Nat×Rn)→α},(∀ acc,P (k acc))→P (pairVs6 L l m acc k)
 | x::l,y::m,acc,k,h=>by
  simp only [pairVs6]
  exact pairMv5_acc fun acc=>pairVs6_acc h
 | [],_,acc,k,h=>by simp only [pairVs6]; exact h acc
 | _::_,[],acc,k,h=>by simp only [pairVs6]; exact h acc
theorem pairMv6_acc {α:Type} {P:α→Prop} {L:Nat} {x y:SV} {acc:List (Nat×Rn)} {k:List (Nat×Rn)→α} (h:∀ acc,P (k acc)):P (pairMv6 L x y acc k):=by
 unfold pairMv6
 split
 ·exact pairVs6_acc h
 ·exact pairMv5_acc h
def isCase6 (L:Nat) (named:List (Nat×Nat)) (p o:SV×SE.St):Bool :=
 match nameCells o.2 named with
 | b=>pairMv6 L p.1 o.1 [] fun acc=>mHeap5 L b p.2.heap acc fun acc=>mSls5 L b p.2.sls acc fun acc=>mRow5 L b p.2.heap acc fun acc=>caseZ p.1 p.2 (o.1,b) ⟨L,acc⟩
def anyCase6 (L:Nat) (named:List (Nat×Nat)) (o:SV×SE.St):Out→Bool
 | []=>false
 | p::l=>bif isCase6 L named p o then true else anyCase6 L named o l
def allCase6 (L:Nat) (named:List (Nat×Nat)) (outs:Out):Out→Bool
 | []=>true
 | o::l=>anyCase6 L named o outs&&allCase6 L named outs l
def runFits6 (L:Nat) (named:List (Nat×Nat)) (outs:Out):Option Out→Bool
 | some l=>nodupO outs&&allCase6 L named outs l
 | none=>false
theorem isCase6_ok {L:Nat} (hgl:GlOk X) (hZ:FzOk X zT) {named:List (Nat×Nat)} {p o:SV×SE.St} (h:isCase6 L named p o=true) {x:Value} (hx:R E o.1 x) (g:G X own0 w0 E o.2 w) :
  ∃ E',E.le E'∧R E' p.1 x∧G X own0 w0 E' p.2 w:=by
 unfold isCase6 at h
 obtain ⟨E1,hle,g1⟩:=nameCells_ok named g
 have:∀ b:Bool,(∃ acc,b=caseZ p.1 p.2 (o.1,nameCells o.2 named) ⟨L,acc⟩)→b=true→∃ E',E.le E'∧R E' p.1 x∧G X own0 w0 E' p.2 w:=by
  rintro b ⟨acc,e⟩ hb
  rw [e] at hb
  obtain ⟨k1,k2,k3⟩:=caseZ_ok hgl hZ hb (hx.mono hle) g1
  exact ⟨_,Env.le_trans hle k1,k2,k3⟩
 refine this _ ?_ h
 let Q:Bool→Prop:=fun r=>∃ acc,r=caseZ p.1 p.2 (o.1,nameCells o.2 named) ⟨L,acc⟩
 exact pairMv6_acc (P:=Q) fun acc=>mHeap5_acc (P:=Q) fun acc=>mSls5_acc (P:=Q) fun acc=>mRow5_acc (P:=Q) fun acc=>⟨acc,rfl⟩
theorem anyCase6_ok {L:Nat} (hgl:GlOk X) (hZ:FzOk X zT) {named:List (Nat×Nat)} {o:SV×SE.St}:∀ {outs:Out},anyCase6 L named o outs=true→∀ {x:Value},R E o.1 x→G X own0 w0 E o.2 w →
  ∃ p∈outs,∃ E',E.le E'∧R E' p.1 x∧G X own0 w0 E' p.2 w
 | p::l,h,x,hx,g=>by
  simp only [anyCase6] at h
  cases hb:isCase6 L named p o with
  | true =>
   obtain ⟨E',h1,h2,h3⟩:=isCase6_ok hgl hZ hb hx g
   exact ⟨p,List.mem_cons_self,E',h1,h2,h3⟩
  | false =>
   rw [hb] at h
   obtain ⟨q,hq,r⟩:=anyCase6_ok hgl hZ h hx g
   exact ⟨q,List.mem_cons_of_mem _ hq,r⟩
theorem allCase6_ok {L:Nat} {named:List (Nat×Nat)} {outs:Out}:∀ {l:Out},allCase6 L named outs l=true→∀ o∈l,anyCase6 L named o outs=true
 | x::l,h,o,ho=>by
  simp only [allCase6,Bool.and_eq_true] at h
  rcases List.mem_cons.1 ho with rfl | ho
  ·exact h.1
  ·exact allCase6_ok h.2 o ho
theorem sm_run6 (hT:TabOk X) (hP:PkOk X) (hR:RkOk X) (hK:∀ own0 w0,KOk X own0 w0) (hgl:GlOk X) (hZ:FzOk X zT) {L fuel gi:Nat} {m:Sm} {named:List (Nat×Nat)}
  (e:runFits6 L named m.outs (run X.T fuel gi m.args m.S)=true):SmOk X gi m:=by
 cases hrun:run X.T fuel gi m.args m.S with
 | none=>rw [hrun] at e; cases e
 | some l =>
  rw [hrun] at e
  simp only [runFits6,Bool.and_eq_true] at e
  refine ⟨nodupO_ok e.1,fun own0 w0 E w vals g hr=>?_⟩
  refine (run_ok hT hP hR (hK own0 w0) fuel hrun g hr).mono fun e' w' he=>?_
  obtain ⟨o,ho,E',x,h1,h2,h3,h4⟩:=he
  obtain ⟨p,hp,E2,k1,k2,k3⟩:=anyCase6_ok hgl hZ (allCase6_ok e.2 o ho) h3 h4
  exact ⟨p,hp,E2,x,Env.le_trans h1 k1,h2,k2,k3⟩
theorem smL6 (hp:PolFit pc) (hK:KAll (Xc pc) ks) {L fuel gi:Nat} {m:Sm} {named:List (Nat×Nat)} (e:runFits6 L named m.outs (run (TL ks jn nb) fuel gi m.args m.S)=true):SmOk (Xc pc) gi m :=
 (sm_run6 (X:=XL pc ks jn nb) tabL pkL rkL (fun own0 w0=>kok (hK.tbl tblL) rfl own0 w0) (fun gg cs h=>glc_ok (pc:=pc) gg cs h)
  (fun own0 w0 E st w g k svs h=>fzc hp own0 w0 E st w (g.tbl tblL.symm) k svs h) e).tbl tblL.symm
end SE
end
end Go.Proofs.YtdgejnakakjgfaaGreatDoor
