/- What Fit answers: its roles' sets are even. A policy that Fit made is one that may be: a new machine has a core. A machine of a policy that was made one that may be has a core. The document's rank and order. What a law begins with. The document's order of sources. -/
import Derived.Test.YtdgejnakakjgfaaGreatDoorR18
import Derived.Test.YtdgejnakakjgfaaGreatDoorS00
import Derived.Test.YtdgejnakakjgfaaGreatDoorR08
import Derived.Test.YtdgejnakakjgfaaGreatDoorS01
import Derived.Below
import Derived.LoopN
set_option linter.unusedVariables false
set_option linter.unusedSimpArgs false
set_option maxRecDepth 100000
namespace Go.Proofs.YtdgejnakakjgfaaGreatDoor
section
namespace SE
open Go.RowKit
set_option maxHeartbeats 0
variable {X:Px} {own0:Nat→Prop} {w0 w w':World} {E:Env} {st:SE.St} {pc:Array Value} {tm:TT} {a:Act}
def UFv (k:Nat) (vs:List Value):Prop:=k=13∧∃ z:Int,vs=[i64 z]∧z % 2=0
noncomputable def Xv:Px:=⟨Tryz.prog,{ TW with k:=kL kFit,pkB:=fun _=>false },UFv,fun _ _ _=>False⟩
theorem tabv:TabOk Xv:=tab_ok rfl rfl rfl (fun t nm r h=>by simp [Xv,TW,TC] at h) (fun nm args h=>by simp [Xv,TW] at h) (fun gg cs h E E' vs hr=>clL_ok (glT_cl gg cs h) hr) (fun t h=>by simp [Xv,TW,TC] at h)
theorem rkv:RkOk Xv where
 app:=fun nm args new st args' h=>by simp [Xv,TW] at h
 fn:=fun g h=>by simp [Xv,TW] at h
 ok:=fun g args st v h=>by simp [Xv,TW] at h
theorem pkv:PkOk Xv where
 fn:=fun g h=>by simp [Xv] at h
 ok:=fun g args st v h=>by simp [Xv] at h
def evenStep (tm:TT) (st:SE.St) (o:Oper):Option (List Sx) :=
 match o.guard,o.op with
 | none,.binOp .and t x y yt=>match rho tm x,rho tm y with
  | .int .i64 _,.int .i64 (.r p q)=>bif decide (p=14)&&decide (q=14) then one o.dst tm (A st.nid) (addFact (atom st 0 14) 13 [A st.nid]) else none
  | _,_=>none
 | _,_=>none
theorem even_and (z:Int):∃ n:Nat,IntKind.i64.wrap (((BitVec.ofInt IntKind.i64.bits z &&& BitVec.ofInt IntKind.i64.bits 14).toNat:Nat):Int)=n∧n≤14∧n % 2=0:=by
 have h14:(BitVec.ofInt IntKind.i64.bits 14).toNat=14:=ofInt_toNat (k:=.i64) (z:=14) (by decide) (by decide)
 obtain ⟨n,hn⟩:∃ n,n=(BitVec.ofInt IntKind.i64.bits z &&& BitVec.ofInt IntKind.i64.bits 14).toNat:=⟨_,rfl⟩
 have e:n=(BitVec.ofInt IntKind.i64.bits z).toNat &&& 14:=by rw [hn,BitVec.toNat_and,h14]
 have h1:n≤14:=by rw [e]; exact Nat.and_le_right
 have h2:n % 2=0:=by
  have:=Nat.and_mod_two_pow (a:=(BitVec.ofInt IntKind.i64.bits z).toNat) (b:=14) (n:=1)
  rw [← e] at this
  simpa using this
 refine ⟨n,?_,h1,h2⟩
 rw [← hn]
 exact wrap_in (k:=.i64) (by simp only [kmin]; omega) (by simp only [kmax]; omega)
theorem evenStep_wp (g:G Xv own0 w0 E st w) (f:FOk E tm a) {ops:Array Oper} {o:Oper} {l:List Sx} (e:evenStep tm st o=some l) {K:Act→World→Prop} {Q:Exit→Act→World→Prop} (hK:Post Xv own0 w0 E l K) :
  if Region.wanted o (yielded ops a.tmps) then o.wp Xv.P a w K Q else K (a.put o.dst undef) w:=by
 obtain ⟨dst,op,type,pos,after,guard⟩:=o
 unfold evenStep at e
 simp only at e
 split at e
 ·rename_i t x y yt
  split at e
  ·rename_i si p q hx hy
   simp only [cond_eq_ite,Bool.and_eq_true,decide_eq_true_eq,one_eq] at e
   split at e
   ·rename_i hc
    cases e
    obtain ⟨rfl,rfl⟩:=hc
    have ex:=f.eval x
    have ey:=f.eval y
    rw [hx] at ex
    rw [hy] at ey
    simp only [R,SIok] at ex ey
    obtain ⟨z,_,ex⟩:=ex
    obtain ⟨u,hu,ey⟩:=ey
    have hu:u=14:=by omega
    subst hu
    have hw:Region.wanted { dst:=dst,op:=.binOp .and t x y yt,type:=type,pos:=pos,after:=after,guard:=none } (yielded ops a.tmps)=true:=by simp [Region.wanted]
    rw [if_pos hw]
    obtain ⟨n,hn,n1,n2⟩:=even_and z
    have hrun:(execOp a.eval { dst:=dst,op:=.binOp .and t x y yt,type:=type,pos:=pos,after:=after,guard:=none }).run Xv.P w=.ok (.value (.int .i64 n)) w:=by
     have hb:=binOp_int (P:=Xv.P) (op:=.and) (t:=t) (x:=x) (y:=y) (k:=.i64) (a:=z) (b:=14) (by simp) w
     have:(do eqGuard .and t x y (.int .i64 z) (.int .i64 14); binOp .and t (.int .i64 z) (.int .i64 14):Sem Value).run Xv.P w=.ok (.int .i64 n) w:=by
      rw [hb,← hn]
      rfl
     simpa [execOp,ex,ey] using v_run this
    unfold Oper.wp
    rw [hrun]
    have g1:=g.atom (lo:=0) (hi:=14) (z:=(n:Int)) (by omega) (by omega)
    have g2:=g1.addFact (k:=13) (l:=[A st.nid]) ⟨[i64 n],RL_cons.2 ⟨by simp [A,R,SIok,Env.upd,i64],by simp [RL]⟩,rfl,n,rfl,by omega⟩
    have hle:E.le (E.upd st.nid (.z (n:Int))):=Env.le_upd (x:=EV.z (n:Int)) g.nid_none
    exact hK _ List.mem_cons_self _ _ w hle g2 ((f.mono hle).put dst (v:=A st.nid) (by simp [A,R,SIok,Env.upd]))
   ·cases e
  ·cases e
 ·cases e
def runOpsE (T:Tb) (call:Nat→List SV→SE.St→Option Out) (ops:List Oper):List Oper→Sx→Option (List Sx)
 | [],s=>some [s]
 | o::rest,s=>match evenStep s.1 s.2 o with
  | some l=>bindL (runOpsE T call ops rest) l
  | none=>match gStep T call ops s.1 s.2 o with
   | some l=>bindL (runOpsE T call ops rest) l
   | none=>none
theorem runOpsE_wp {call:Nat→List SV→SE.St→Option Out} (hC:CallOk Xv own0 w0 call) {ops:Array Oper} {Q:Exit→Act→World→Prop} :
  ∀ {rest:List Oper} {E:Env} {s:Sx} {a:Act} {w:World} {l:List Sx},runOpsE Xv.T call ops.toList rest s=some l→G Xv own0 w0 E s.2 w→FOk E s.1 a→Post Xv own0 w0 E l (Q .normal)→wpList Xv.P ops Q rest a w
 | [],E,s,a,w,l,e,g,f,hQ=>by
  simp only [runOpsE] at e
  cases e
  exact hQ s List.mem_cons_self E a w (Env.le_refl E) g f
 | o::rest,E,s,a,w,l,e,g,f,hQ=>by
  simp only [runOpsE] at e
  cases h0:evenStep s.1 s.2 o with
  | some m =>
   simp only [h0] at e
   refine wpList_step fun K hK=>?_
   refine evenStep_wp g f h0 fun s' hs' E' a' w' hle g' f'=>?_
   obtain ⟨r,hr,hr2⟩:=bindL_mem e s' hs'
   exact hK _ _ (runOpsE_wp hC hr g' f' (hQ.mono hle hr2))
  | none =>
   simp only [h0] at e
   cases h1:gStep Xv.T call ops.toList s.1 s.2 o with
   | none=>simp only [h1] at e; cases e
   | some m =>
    simp only [h1] at e
    refine wpList_step fun K hK=>?_
    refine gStep_wp tabv pkv rkv hC g f h1 fun s' hs' E' a' w' hle g' f'=>?_
    obtain ⟨r,hr,hr2⟩:=bindL_mem e s' hs'
    exact hK _ _ (runOpsE_wp hC hr g' f' (hQ.mono hle hr2))
def noCall:Nat→List SV→SE.St→Option Out:=fun _ _ _=>none
theorem noCall_ok:CallOk Xv own0 w0 noCall:=fun g args st l h=>by cases h
noncomputable def execE:Nat→Code→Sx→Option (List (SE.X×Sx))
 | 0,.seq (.region _ ops false) b,s=>match runOpsE Xv.T noCall ops.toList ops.toList s with
  | some l=>thenL (exec Xv.T 60 b) (nrm l)
  | none=>none
 | n+1,.seq x b,s=>match exec Xv.T 60 x s with
  | some l=>thenL (execE n b) l
  | none=>none
 | _,_,_=>none
theorem execE_ok (hK:KOk Xv own0 w0):∀ n,ExOk Xv own0 w0 (execE n)
 | n=>by
  have ih:∀ m,m<n→ExOk Xv own0 w0 (execE m):=fun m hm=>execE_ok hK m
  intro c s l e E a w Q g f h
  unfold execE at e
  split at e
  ·rename_i id ops b
   cases h1:runOpsE Xv.T noCall ops.toList ops.toList s with
   | none=>simp only [h1] at e; cases e
   | some m =>
    simp only [h1] at e
    refine wp_seq (wp_region_list (runOpsE_wp noCall_ok h1 g f fun s' hs E' a' w' hle g' f'=>?_))
    obtain ⟨k1,k2⟩:=thenL_mem e .n s' (nrm_mem hs)
    obtain ⟨m',q1,q2⟩:=k1 rfl
    exact exec_ok tabv pkv rkv hK 60 b s' m' q1 E' a' w' _ g' f' (h.mono hle q2)
  ·rename_i m x b
   cases h1:exec Xv.T 60 x s with
   | none=>simp only [h1] at e; cases e
   | some r =>
    simp only [h1] at e
    refine wp_seq (exec_ok tabv pkv rkv hK 60 x s r h1 E a w _ g f fun p hp E' a' w' hle g' f'=>?_)
    obtain ⟨xe,s'⟩:=p
    obtain ⟨k1,k2⟩:=thenL_mem e xe s' hp
    cases xe with
    | n =>
     obtain ⟨m',q1,q2⟩:=k1 rfl
     exact ih m (by omega) b s' m' q1 E' a' w' _ g' f' (h.mono hle q2)
    | x id=>exact h (.x id,s') (k2 (by simp)) E' a' w' hle g' f'
    | r=>exact h (.r,s') (k2 (by simp)) E' a' w' hle g' f'
  ·cases e
def isEv (st:SE.St):Option SV→Bool
 | some (.int .i64 (.a id))=>hasF (13,[A id]) st.facts
 | _=>false
def fitO2 (o:SV×SE.St):Bool :=
 fitO o&&(match o.1 with
  | .agg l=>isEv o.2 (nth l 10)&&(isEv o.2 (nth l 11)&&isEv o.2 (nth l 12))
  | _=>false)
noncomputable def fitRun2:Bool:=runO fitO2 (callF1 Xv.T (execE 4) 16 [.agg fitA] fitS0)
theorem fit_r2:fitRun2=true:=by decide +kernel
theorem isEv_ok (g:G Xv own0 w0 E st w) {l:List SV} {vs:List Value} {i:Nat} (h:isEv st (nth l i)=true) (hr:RL E l vs):∃ z:Int,vs[i]?=some (i64 z)∧z % 2=0:=by
 unfold isEv at h
 split at h
 ·rename_i id hn
  obtain ⟨v,h1,h2⟩:=RL_nth hr hn
  obtain ⟨us,h3,_,z,rfl,hz⟩:=g.facts _ (hasF_mem h)
  simp only [R,SIok] at h2
  obtain ⟨y,hy,rfl⟩:=h2
  have h3:=(RL_cons.1 h3).1
  simp only [A,R,SIok] at h3
  obtain ⟨y',hy',e⟩:=h3
  rw [hy] at hy'
  cases hy'
  cases e
  exact ⟨_,h1,hz⟩
 ·cases h
def EvenR (pc:Array Value):Prop:=∀ i,10≤i→i≤12→Proofs.YtdgejnakakjgfaaGreatDoor.pI pc i % 2=0
theorem fit_even (hw:GlW w) {ps:Array Value} (h:PolA w ps):Calls Tryz.prog 16 #[.agg ps] w fun e w'=>Below w.heap.size w w'∧GlW w'∧∃ pc:Array Value,e=.returned (.agg pc)∧PolR w' pc.toList∧EvenR pc:=by
 have e:=fit_r2
 unfold fitRun2 at e
 cases hrun:callF1 Xv.T (execE 4) 16 [.agg fitA] fitS0 with
 | none=>rw [hrun] at e; cases e
 | some out =>
  rw [hrun] at e
  have hK:=kok (X:=Xv) (ks:=kFit) (kFit_ok rfl) rfl (fun _=>False) w
  refine (((callF1_ok tabv hK (execE_ok hK 4)) 16 _ _ _ hrun).2 (EF ps) w #[.agg ps] (EF_G hw rfl h) (RL_cons.2 ⟨?_,by simp [RL]⟩)).mono fun e' w' he=>?_
  ·simp only [R]
   exact ⟨ps,rfl,EF_pol h⟩
  ·obtain ⟨o,ho,E',x,h1,rfl,h3,h4⟩:=he
   have hf:=allO_ok e o ho
   unfold fitO2 at hf
   rw [Bool.and_eq_true] at hf
   obtain ⟨q1,q2⟩:=hf
   obtain ⟨pc,rfl,hp⟩:=fitO_ok h4 q1 h3
   refine ⟨below_of h4,glW_of h4 rfl,pc,rfl,hp,?_⟩
   split at q2
   ·rename_i l hl
    rw [hl] at h3
    simp only [R] at h3
    obtain ⟨cs,hcs,hr⟩:=h3
    cases hcs
    simp only [Bool.and_eq_true] at q2
    have key:∀ i,isEv o.2 (nth l i)=true→Proofs.YtdgejnakakjgfaaGreatDoor.pI pc i % 2=0:=fun i hi=>by
     obtain ⟨z,z1,z2⟩:=isEv_ok h4 hi hr
     have z1':pc[i]?=some (.int .i64 z):=by simpa [i64] using z1
     simpa only [Proofs.YtdgejnakakjgfaaGreatDoor.pI,z1'] using z2
    intro i hi1 hi2
    have:i=10∨i=11∨i=12:=by omega
    rcases this with rfl | rfl | rfl
    ·exact key _ q2.1
    ·exact key _ q2.2.1
    ·exact key _ q2.2.2
   ·cases q2
end SE
end
section
namespace SE
open Go.RowKit
set_option maxHeartbeats 0
variable {X:Px} {own0:Nat→Prop} {w0 w w':World} {E:Env} {st:SE.St} {pc:Array Value}
def runTT:Option Out→Bool
 | some l=>allIs .tt l
 | none=>false
theorem pure_tt {gi:Nat} {args:List SV} (e:runTT (run (Xw fun _ _ _=>none).T 60 gi args emptySt)=true) {w:World} (hw:GlW w) {vals:Array Value} (hr:RL (fun _=>none) args vals.toList) :
  Calls Tryz.prog gi vals w fun e w'=>e=.returned (.bool true)∧Below w.heap.size w w':=by
 cases hrun:run (Xw fun _ _ _=>none).T 60 gi args emptySt with
 | none=>rw [hrun] at e; cases e
 | some out =>
  rw [hrun] at e
  refine (run_ok (X:=Xw fun _ _ _=>none) tabw pkw rkw (fun g args st l h=>by simp [Xw] at h) 60 hrun (g_empty hw rfl) hr).mono fun e' w' he=>?_
  obtain ⟨o,ho,E',x,h1,rfl,h3,h4⟩:=he
  have:=allIs_ok e o ho
  rw [this] at h3
  simp only [R] at h3
  subst h3
  exact ⟨rfl,below_of h4⟩
def ordA (a b c:Nat):List SV:=[.agg [N 0,N (Int.ofNat a),N (Int.ofNat b),N (Int.ofNat c),N 4]]
noncomputable def ordR (a b c:Nat):Bool:=runTT (run (Xw fun _ _ _=>none).T 60 56 (ordA a b c) emptySt)
theorem ord_all:(ordR 1 2 3&&(ordR 1 3 2&&(ordR 2 1 3&&(ordR 2 3 1&&(ordR 3 1 2&&ordR 3 2 1)))))=true:=by decide +kernel
noncomputable def setR (n:Nat):Bool:=runTT (run (Xw fun _ _ _=>none).T 60 60 [N (Int.ofNat (2*n))] emptySt)
theorem set_all:(List.range 8).all setR=true:=by decide +kernel
structure ChkOk (pc:Array Value):Prop where
 fit:PolFit pc
 o0:pI pc 0=0
 o4:pI pc 4=4
 o:∀ i,1≤i→i≤3→1≤pI pc i∧pI pc i≤3
 ro:∀ i,10≤i→i≤12→0≤pI pc i∧pI pc i≤14
 ev:EvenR pc
def polF:Nat×List SV:=(2,polCells)
def kOrdE (args:List SV) (st:SE.St):Option Out :=
 bif SV.beqL args [.agg [A 100,A 101,A 102,A 103,A 104]]&&hasF polF st.facts then some [(.tt,st)] else none
def kSetE (args:List SV) (st:SE.St):Option Out :=
 match args with
 | [.int .i64 (.a id)]=>bif (Nat.beq id 110||(Nat.beq id 111||Nat.beq id 112))&&hasF polF st.facts then some [(.tt,st)] else none
 | _=>none
theorem pol_at (g:G (Xc pc) own0 w0 E st w) (h:hasF polF st.facts=true) (hp:PolOk pc) {i:Nat} (hi:i<56) (hk:i<5∨9≤i) (hc:nth polCells i=some (A (100+i))):E (100+i)=some (.z (pI pc i)):=by
 obtain ⟨vs,h1,h2⟩:=g.facts _ (hasF_mem h)
 have h2:vs=pc.toList:=h2
 subst h2
 obtain ⟨v,h3,h4⟩:=RL_nth h1 hc
 have h5:=hp.2 i hi hk
 have h3':pc[i]?=some v:=by simpa using h3
 rw [h3'] at h5
 cases h5
 simp only [A,R,SIok] at h4
 obtain ⟨z,hz,e⟩:=h4
 cases e
 exact hz
theorem k_ordE (hc:ChkOk pc):KOne (Xc pc) 56 kOrdE:=by
 intro own0 w0 args st out h E w vals g hr
 unfold kOrdE at h
 simp only [cond_eq_ite,Bool.and_eq_true] at h
 split at h
 ·rename_i hh
  cases h
  obtain ⟨ha,hf⟩:=hh
  have ha:=SV.beqL_eq _ _ ha
  subst ha
  obtain ⟨v,e,hv⟩:=RL1 hr
  rw [arr_of e]
  simp only [R] at hv
  obtain ⟨cs,rfl,hcs⟩:=hv
  obtain ⟨x0,x1,x2,x3,x4,e5,r0,r1,r2,r3,r4⟩:=RL5 hcs
  have at_:∀ {i:Nat} {x:Value},i<5→nth polCells i=some (A (100+i))→R E (A (100+i)) x→x=i64 (pI pc i):=fun {i x} hi hn hx=>by
   have:=pol_at g hf hc.fit.ok (i:=i) (by omega) (.inl hi) hn
   simp only [A,R,SIok] at hx
   obtain ⟨z,hz,rfl⟩:=hx
   rw [this] at hz
   cases hz
   rfl
  have y0:=at_ (i:=0) (by omega) rfl r0
  have y1:=at_ (i:=1) (by omega) rfl r1
  have y2:=at_ (i:=2) (by omega) rfl r2
  have y3:=at_ (i:=3) (by omega) rfl r3
  have y4:=at_ (i:=4) (by omega) rfl r4
  rw [hc.o0] at y0
  rw [hc.o4] at y4
  have hw:=glW_of g rfl
  have b1:=hc.o 1 (by omega) (by omega)
  have b2:=hc.o 2 (by omega) (by omega)
  have b3:=hc.o 3 (by omega) (by omega)
  have p1:=hc.fit.perm 1 (by omega)
  have p2:=hc.fit.perm 2 (by omega)
  have p3:=hc.fit.perm 3 (by omega)
  have fin:∀ a b c:Nat,pI pc 1=a→pI pc 2=b→pI pc 3=c→ordR a b c=true→Calls Tryz.prog 56 #[.agg cs] w (Outs (Xc pc) own0 w0 E [(.tt,st)]):=fun a b c ea eb ec er=>by
   refine (pure_tt er hw (RL_cons.2 ⟨?_,by simp [RL]⟩)).mono fun e' w' he=>?_
   ·simp only [R]
    refine ⟨cs,rfl,?_⟩
    rw [e5,y0,y1,y2,y3,y4,ea,eb,ec]
    exact RL_cons.2 ⟨RN _ 0,RL_cons.2 ⟨RN _ a,RL_cons.2 ⟨RN _ b,RL_cons.2 ⟨RN _ c,RL_cons.2 ⟨RN _ 4,by simp [RL]⟩⟩⟩⟩⟩
   ·obtain ⟨rfl,hb⟩:=he
    exact ⟨_,List.mem_cons_self,E,_,Env.le_refl E,rfl,by simp [R],g.below hb⟩
  have q:=ord_all
  simp only [Bool.and_eq_true] at q
  have five:∀ s:Nat,1≤s→s≤3→(∃ i,i<5∧pI pc i=s)→pI pc 1=s∨pI pc 2=s∨pI pc 3=s:=fun s h1 h2 ⟨i,hi,e⟩=>by
   have:i=0∨i=1∨i=2∨i=3∨i=4:=by omega
   have o0:=hc.o0
   have o4:=hc.o4
   rcases this with rfl | rfl | rfl | rfl | rfl
   ·omega
   ·exact .inl e
   ·exact .inr (.inl e)
   ·exact .inr (.inr e)
   ·omega
  have p1:=five 1 (by omega) (by omega) p1
  have p2:=five 2 (by omega) (by omega) p2
  have p3:=five 3 (by omega) (by omega) p3
  have:(pI pc 1=1∧pI pc 2=2∧pI pc 3=3)∨(pI pc 1=1∧pI pc 2=3∧pI pc 3=2)∨(pI pc 1=2∧pI pc 2=1∧pI pc 3=3)∨(pI pc 1=2∧pI pc 2=3∧pI pc 3=1)∨(pI pc 1=3∧pI pc 2=1∧pI pc 3=2)∨(pI pc 1=3∧pI pc 2=2∧pI pc 3=1):=by omega
  rcases this with ⟨ea,eb,ec⟩ | ⟨ea,eb,ec⟩ | ⟨ea,eb,ec⟩ | ⟨ea,eb,ec⟩ | ⟨ea,eb,ec⟩ | ⟨ea,eb,ec⟩
  ·exact fin 1 2 3 ea eb ec q.1
  ·exact fin 1 3 2 ea eb ec q.2.1
  ·exact fin 2 1 3 ea eb ec q.2.2.1
  ·exact fin 2 3 1 ea eb ec q.2.2.2.1
  ·exact fin 3 1 2 ea eb ec q.2.2.2.2.1
  ·exact fin 3 2 1 ea eb ec q.2.2.2.2.2
 ·cases h
theorem k_setE (hc:ChkOk pc):KOne (Xc pc) 60 kSetE:=by
 intro own0 w0 args st out h E w vals g hr
 unfold kSetE at h
 split at h
 ·rename_i id
  simp only [cond_eq_ite,Bool.and_eq_true,Bool.or_eq_true] at h
  split at h
  ·rename_i hh
   cases h
   obtain ⟨ha,hf⟩:=hh
   obtain ⟨v,e,hv⟩:=RL1 hr
   rw [arr_of e]
   have key:∀ i,10≤i→i≤12→id=100+i→nth polCells i=some (A (100+i))→Calls Tryz.prog 60 #[v] w (Outs (Xc pc) own0 w0 E [(.tt,st)]):=fun i h1 h2 ei hn=>by
    subst ei
    have hE:=pol_at g hf hc.fit.ok (i:=i) (by omega) (.inr (by omega)) hn
    simp only [R,SIok] at hv
    obtain ⟨z,hz,rfl⟩:=hv
    rw [hE] at hz
    cases hz
    have r1:=hc.ro i h1 h2
    have r2:=hc.ev i h1 h2
    obtain ⟨n,hn⟩:∃ n:Nat,n<8∧pI pc i=Int.ofNat (2*n):=⟨(pI pc i / 2).toNat,by omega,by simp only [Int.ofNat_eq_natCast]; omega⟩
    rw [hn.2]
    refine (pure_tt (allRg set_all hn.1) (glW_of g rfl) (RL_cons.2 ⟨RN _ (2*n),by simp [RL]⟩)).mono fun e' w' he=>?_
    obtain ⟨rfl,hb⟩:=he
    exact ⟨_,List.mem_cons_self,E,_,Env.le_refl E,rfl,by simp [R],g.below hb⟩
   rcases ha with ha | ha | ha
   ·exact key 10 (by omega) (by omega) (nbeq ha) rfl
   ·exact key 11 (by omega) (by omega) (nbeq ha) rfl
   ·exact key 12 (by omega) (by omega) (nbeq ha) rfl
  ·cases h
 ·cases h
abbrev kNewE:List (Nat×(List SV→SE.St→Option Out)):=[(43,kCloneB),(56,kOrdE),(60,kSetE)]
theorem kNewE_ok (hc:ChkOk pc):KAll (Xc pc) kNewE:=⟨k_cloneB rfl,k_ordE hc,k_setE hc,trivial⟩
def newE:SE.St:=addFact newS 2 polCells
def chkSE (k:Nat):SE.St:={ chkS k with facts:=[polF] }
def chkBE (k:Nat):At:=⟨.n,[(1,.ptr 310 0),(2,N 0)],chkSE k⟩
def chkQE:List At:=[⟨.n,[(2,N 0)],chkSE 20⟩]
noncomputable def chkRE (k:Nat):Bool:=atFits 210000 118 [] chkQE (execK (TL kNewE (fun _=>false) false) 60 (hkA (10000*(k+2)) 118 [] (chkBE (k+1)) chkQE) (.seq .run (.cond .run .hook)) (chkC k) (tmL 118 (chkBE k).sl,(chkBE k).S))
def chkFE:List At:=[⟨.r,[(2,N 0)],chkE⟩]
def chkSE0:SE.St:={ chkS0 with facts:=[polF] }
noncomputable def chkTopE:Bool:=atFits 310000 118 [] chkFE (execK (TL kNewE (fun _=>false) false) 60 (hkA 10000 118 [] (chkBE 0) chkQE) (.seq .run (.seq (.block .hook) .run)) (codeOf 41) (tmL 118 [(0,.agg polCells)],chkSE0))
def chkME:Sm:=⟨chkSE0,[.agg polCells],[(N 0,chkE)]⟩
noncomputable def chkZE:Bool:=atFits 210000 118 [] chkQE (exec (TL kNewE (fun _=>false) false) 60 (chkC 11) (tmL 118 (chkBE 11).sl,(chkBE 11).S))
theorem chkE_0:chkRE 0=true:=by decide +kernel
theorem chkE_1:chkRE 1=true:=by decide +kernel
theorem chkE_2:chkRE 2=true:=by decide +kernel
theorem chkE_3:chkRE 3=true:=by decide +kernel
theorem chkE_4:chkRE 4=true:=by decide +kernel
theorem chkE_5:chkRE 5=true:=by decide +kernel
theorem chkE_6:chkRE 6=true:=by decide +kernel
theorem chkE_7:chkRE 7=true:=by decide +kernel
theorem chkE_8:chkRE 8=true:=by decide +kernel
theorem chkE_9:chkRE 9=true:=by decide +kernel
theorem chkE_10:chkRE 10=true:=by decide +kernel
theorem chkE_11:chkZE=true:=by decide +kernel
theorem chkE_top:chkTopE=true:=by decide +kernel
abbrev ChkPE (pc:Array Value) (k:Nat):Prop:=PartOk (Xc pc) 118 (chkC k) (chkBE k).sl (chkBE k).S chkQE
theorem chk_stepE (hc:ChkOk pc) {k:Nat} {a x:Code} {o:Operand} (h1:chkC k=.seq a (.cond o x (chkC (k+1)))) (e:chkRE k=true) (h:ChkPE pc (k+1)):ChkPE pc k :=
 partK hc.fit (kNewE_ok hc) (b:=chkBE (k+1)) h (hk_of h1 rfl) e
theorem chk_allE (hc:ChkOk pc):ChkPE pc 0 :=
 chk_stepE hc chkC_0 chkE_0 <| chk_stepE hc chkC_1 chkE_1 <| chk_stepE hc chkC_2 chkE_2 <| chk_stepE hc chkC_3 chkE_3 <| chk_stepE hc chkC_4 chkE_4 <| chk_stepE hc chkC_5 chkE_5 <| chk_stepE hc chkC_6 chkE_6 <| chk_stepE hc chkC_7 chkE_7 <| chk_stepE hc chkC_8 chkE_8 <| chk_stepE hc chkC_9 chkE_9 <| chk_stepE hc chkC_10 chkE_10 <| partL hc.fit (kNewE_ok hc) chkE_11
theorem chk_partE (hc:ChkOk pc):PartOk (Xc pc) 118 (codeOf 41) [(0,.agg polCells)] chkSE0 chkFE :=
 partK hc.fit (kNewE_ok hc) (b:=chkBE 0) (chk_allE hc) (by rw [code41]; exact ⟨trivial,rfl,trivial⟩) chkE_top
theorem chk_nE:nodupO chkME.outs=true:=by decide +kernel
theorem chk_smE (hc:ChkOk pc):SmOk (Xc pc) 41 chkME:=by
 have hs:=chk_slots
 simp only [chkF,List.map_cons,List.map_nil,List.cons.injEq,and_true] at hs
 refine sm_partR (fn:=Tryz.f41) (t:=2) (ps:=chkFE) rfl Tryz.func41 body41 rfl chk_nE (fun own0 w0 E w a Q g f h=>chk_partE hc own0 w0 E w a Q g (by rw [tm41]; exact f) h) fun p hp'=>?_
 simp only [chkFE,List.mem_cons,List.not_mem_nil,or_false] at hp'
 subst hp'
 refine ⟨.inr rfl,?_⟩
 have:=hs.2
 show (((tmL 118 [(2,N 0)]).get 2,chkE):SV×SE.St)∈_
 rw [this]
 exact List.mem_cons_self
def kChkE:List SV→SE.St→Option Out:=kSm chkME [] true
abbrev kNewF:List (Nat×(List SV→SE.St→Option Out)):=[(41,kChkE),(43,kCloneB)]
def newME:Sm:=⟨newE,[.agg polCells],[(.ptr 1000310 0,aliveS)]⟩
noncomputable def newRE:Bool:=runFits 1000000 namedC newME.outs (run (TL kNewF (fun _=>false) false) 60 17 newME.args newME.S)
theorem new_rE:newRE=true:=by decide +kernel
theorem new_smE (hc:ChkOk pc):SmOk (Xc pc) 17 newME:=smL (ks:=kNewF) (jn:=fun _=>false) (nb:=false) (L:=1000000) (fuel:=60) (named:=namedC) hc.fit ⟨kSmL hc.fit (chk_smE hc) [] true,k_cloneB rfl,trivial⟩ new_rE
theorem rg_o:(List.range 3).all (fun i=>rgB (1+i) 1 3)=true:=by decide +kernel
theorem rg_ro:(List.range 3).all (fun i=>rgB (10+i) 0 14)=true:=by decide +kernel
theorem PolR.chk (h:PolR w pc.toList) (he:EvenR pc):ChkOk pc:=by
 have h0:=(h.pI (i:=0) (lo:=0) (hi:=0) (by decide +kernel)).2
 have h4:=(h.pI (i:=4) (lo:=4) (hi:=4) (by decide +kernel)).2
 refine ⟨h.fit,by omega,by omega,fun i h1 h2=>?_,fun i h1 h2=>?_,he⟩
 ·have:=(h.pI (allRg rg_o (i:=i - 1) (by omega))).2
  rwa [show 1+(i - 1)=i by omega] at this
 ·have:=(h.pI (allRg rg_ro (i:=i - 10) (by omega))).2
  rwa [show 10+(i - 10)=i by omega] at this
end SE
end
section
namespace SE
open Go.RowKit Mc
variable {w w' w00:World} {pc:Array Value}
theorem new_alive {w00:World} (hw0:GlW w00) (hbl:Below w00.heap.size w00 w) (hw:GlW w) (hp:PolR w pc.toList) (hev:EvenR pc):Calls Tryz.prog 17 #[.agg pc] w fun e w'=>Below w.heap.size w w'∧GlW w' ∧
  ∃ M,e=.returned (.pointer (some ⟨M,0,none⟩))∧w.heap.size≤M∧M<w'.heap.size∧Alive pc w00 w w' M:=by
 refine ((new_smE (hp.chk hev)).2 (fun _=>False) w (EW pc) w #[.agg pc] ((EW_G hw rfl hp).addFact (k:=2) (l:=polCells) ⟨pc.toList,EW_pol hp,rfl⟩) (RL_cons.2 ⟨by simp only [R]; exact ⟨_,rfl,EW_pol hp⟩,by simp [RL]⟩)).mono fun e w' he=>?_
 obtain ⟨o,ho,E',x,hle,rfl,hx,g0⟩:=he
 refine ⟨below_of g0,glW_of g0 rfl,?_⟩
 simp only [newME,List.mem_cons,List.not_mem_nil,or_false] at ho
 subst ho
 simp only at hx g0
 simp only [R] at hx
 obtain ⟨M,hM,rfl⟩:=hx
 obtain ⟨h1,h2 | h2 | h2⟩:=g0.hown al_M hM
 ·cases h2
 ·exact h2.elim
 refine ⟨M,rfl,h2,h1,?_⟩
 obtain ⟨pc',E2,Bc,hp',hsame,g2,hN,hB,e1,e2,e3,e5,es⟩:=alive_core hp hle g0
 obtain ⟨n1,v1,a1,a2,a3,a4⟩:=str_of g0 al_1
 obtain ⟨n2,v2,b1,b2,b3,b4⟩:=str_of g0 al_2
 obtain ⟨n3,v3,c1,c2,c3,c4⟩:=str_of g0 al_3
 have hfar:∀ {id e:Nat} {cs:List SV} {n:Nat},lk aliveS.heap id=some (.cells e cs)→1000310≤id→E' id=some (.blk n)→¬ sees w00 E2 n:=fun hl hid hn hse=>far_of g0 e1 e2 e3 e5 es hl hid hn (hse.imp (fun h=>Nat.lt_of_lt_of_le h hbl.size) fun h=>h)
 have hne:∀ {i j:Nat} {b b':Blk} {n m:Nat},lk aliveS.heap i=some b→lk aliveS.heap j=some b'→E' i=some (.blk n)→E' j=some (.blk m)→i≠j→n≠m:=fun hi hj h1 h2 hij e=>hij (by subst e; exact g0.inj _ _ _ _ _ hi hj h1 h2)
 have hsee:∀ n,sees w00 E2 n→n<w'.heap.size:=by
  rintro n (h | ⟨j,blk,q1,q2⟩ | ⟨j,len,a,ln,cap,q1,q2,rfl⟩ | ⟨cs',hg⟩)
  ·exact Nat.lt_of_lt_of_le (Nat.lt_of_lt_of_le h hbl.size) g0.size
  ·exact (g2.hown q1 q2).1
  ·obtain ⟨base,l2,c2,p1,_,_,_,p5⟩:=g2.sls _ _ q1
   rw [q2] at p1
   cases p1
   exact (p5 a rfl).1
  ·exact (g0.gl n cs' hg).1
 rcases g0.heap _ _ al_M with ⟨h,_⟩ | ⟨n,q1,q2,q3,vs,q4,q5⟩
 ·cases h
 rw [hM] at q1
 cases q1
 obtain ⟨x1,x2,x3,x4,x5,e,r1,r2,r3,r4,r5⟩:=RL5 q5
 simp only [R] at r1 r3 r4 r5
 obtain ⟨m1,f1,rfl⟩:=r1
 obtain ⟨m3,f3,rfl⟩:=r3
 obtain ⟨m4,f4,rfl⟩:=r4
 obtain ⟨m5,f5,rfl⟩:=r5
 rw [← e1,hB] at f1
 cases f1
 rw [a1] at f3
 cases f3
 rw [b1] at f4
 cases f4
 rw [c1] at f5
 cases f5
 rw [arr_of e] at q4
 refine ⟨pc',Bc,fun n=>sees w00 E2 n∨n=M∨n=n1∨n=n2∨n=n3,hp',hsame,⟨?_,?_⟩,?_⟩
 rotate_left
 ·rintro n (h | rfl | rfl | rfl | rfl)
  ·exact hsee n h
  ·exact h1
  ·exact a2
  ·exact b2
  ·exact c2
 ·have fresh:∀ {id n:Nat} {blk:Blk},lk aliveS.heap id=some blk→blk.isRo=false→E' id=some (.blk n)→w.heap.size≤n:=fun hl hr hn=>by
   obtain ⟨_,q | q | q⟩:=g0.hown hl hn
   ·rw [hr] at q; cases q
   ·exact q.elim
   ·exact q
  rintro n ((h | ⟨j,blk,q1,q2⟩ | ⟨j,len,a,ln,cap,q1,q2,rfl⟩ | ⟨cs',hg⟩) | rfl | rfl | rfl | rfl)
  ·exact .inl h
  ·obtain ⟨_,q | q | q⟩:=g2.hown q1 q2
   ·rw [(core_lk_heap q1).1] at q; cases q
   ·exact q.elim
   ·exact .inr (.inl q)
  ·obtain ⟨b1',b2'⟩:=core_lk_bytes q1
   have hlen:len=.r 1 64:=by
    have:j=21∨j=22∨j=23∨j=24:=by omega
    rcases this with rfl | rfl | rfl | rfl <;> (cases q1; rfl)
   obtain ⟨base,l2,c2',p1,p2,_,p4,p5⟩:=g2.sls _ _ q1
   rw [q2] at p1
   cases p1
   subst hlen
   simp only [SIok] at p2
   exact .inr (.inr ⟨a,ln,rfl,by omega,p4⟩)
  ·exact .inl (hw0 n cs' hg).1
  ·exact .inr (.inl h2)
  ·exact .inr (.inl (fresh al_1 rfl a1))
  ·exact .inr (.inl (fresh al_2 rfl b1))
  ·exact .inr (.inl (fresh al_3 rfl c1))
 refine ⟨sees w00 E2,gOf n1 n2 n3,⟨⟨E2,g2.early hbl,hN,hB,fun n hn=>hn⟩,hsee⟩,?_,hfar al_M (by omega) hM,?_,⟨?_,?_⟩,fun n hn=>.inl hn,.inr (.inl rfl),?_⟩
 ·rw [cell_at q4]; rfl
 ·intro l hl1 hl2
  rw [cell_at q4]
  have:l=1∨l=2∨l=3:=by omega
  rcases this with rfl | rfl | rfl <;> rfl
 ·intro l hl1 hl2
  have:l=1∨l=2∨l=3:=by omega
  rcases this with rfl | rfl | rfl
  ·exact ⟨0,[],strm_nil a3 a4,by simp⟩
  ·exact ⟨0,[],strm_nil b3 b4,by simp⟩
  ·exact ⟨0,[],strm_nil c3 c4,by simp⟩
 ·intro l hl1 hl2 n hn
  have hl:l=1∨l=2∨l=3:=by omega
  have d12:=hne al_1 al_2 a1 b1 (by omega)
  have d13:=hne al_1 al_3 a1 c1 (by omega)
  have d23:=hne al_2 al_3 b1 c1 (by omega)
  rcases hl with rfl | rfl | rfl
  ·have:=sfoot_nil a3 a4 hn
   subst this
   refine ⟨hfar al_1 (by omega) a1,hne al_1 al_M a1 hM (by omega),fun l' p1 p2 p3=>?_⟩
   have:l'=2∨l'=3:=by omega
   rcases this with rfl | rfl
   ·exact d12
   ·exact d13
  ·have:=sfoot_nil b3 b4 hn
   subst this
   refine ⟨hfar al_2 (by omega) b1,hne al_2 al_M b1 hM (by omega),fun l' p1 p2 p3=>?_⟩
   have:l'=1∨l'=3:=by omega
   rcases this with rfl | rfl
   ·exact fun h=>d12 h.symm
   ·exact d23
  ·have:=sfoot_nil c3 c4 hn
   subst this
   refine ⟨hfar al_3 (by omega) c1,hne al_3 al_M c1 hM (by omega),fun l' p1 p2 p3=>?_⟩
   have:l'=1∨l'=2:=by omega
   rcases this with rfl | rfl
   ·exact fun h=>d13 h.symm
   ·exact fun h=>d23 h.symm
 ·intro l hl1 hl2 n hn
  have hl:l=1∨l=2∨l=3:=by omega
  rcases hl with rfl | rfl | rfl
  ·exact .inr (.inr (.inl (sfoot_nil a3 a4 hn)))
  ·exact .inr (.inr (.inr (.inl (sfoot_nil b3 b4 hn))))
  ·exact .inr (.inr (.inr (.inr (sfoot_nil c3 c4 hn))))
theorem made_alive (hw0:GlW w00) (hbl:Below w00.heap.size w00 w) (hw:GlW w) {ps:Array Value} (hps:PolA w ps):Calls Tryz.prog 8 #[.agg ps] w fun e w' =>
  ∃ M pc MO,e=.returned (.tuple #[.pointer (some ⟨M,0,none⟩),.agg pc])∧Below w.heap.size w w'∧GlW w'∧PolR w' pc.toList∧MachD pc w00 M MO w' (some d00) ∧
   ∀ n,MO n→n<w00.heap.size∨w.heap.size+2≤n∨∃ a ln,a.block=n∧1≤ln∧ByteRow w' (some a) ln:=by
 refine (callsIn_wide (n:=3)).1 (callsIn_of_wp Tryz.func8 rfl trivial ?_ rfl)
 simp only [Tryz.ntmps8,List.size_toArray,List.length_cons,List.length_nil,Nat.reduceAdd,Nat.reduceSub,Array.replicate_succ,Array.replicate_zero,List.push_toArray,List.append_toArray,List.nil_append,List.cons_append]
 obtain ⟨d28,hd28,hr28⟩:=pol_un
 gi_wp2_with (refine in_load (b:=w.heap.size) (off:=0) (n:=56) (d:=d28) rfl rfl rfl ((alloc_same _ _ _ (by rw [alloc_size]; omega)).trans (heap_alloc_new w _)) hd28 hr28 pol_info (by have:=hps.len; omega) ?_; rw [take_all hps.len])
 rename_i K1 hK1 K2 hK2
 generalize hwB:(World.alloc (World.alloc w _) _)=wB
 have hbB:Below w.heap.size w wB:=by rw [← hwB]; exact ((Below.refl _ _).alloc (Nat.le_refl _) _).alloc (by rw [alloc_size]; omega) _
 have hsB:wB.heap.size=w.heap.size+2:=by rw [← hwB,alloc_size,alloc_size]
 have hrB:∃ old:Array Value,wB.heap[w.heap.size+1]?=some (.cells old 28 (0,0))∧old.size=56∧∀ (i:Nat) (z:Int),old[i]?≠some (Value.int .u8 z):=by
  have hh:=heap_alloc_new (w.alloc (Obj.cells ps 28))
  rw [alloc_size] at hh
  refine ⟨_,by rw [← hwB]; exact hh _,rfl,fun i z h=>?_⟩
  have:=Array.mem_of_getElem? h
  simp at this
 refine ⟨trivial,?_⟩
 refine (callsIn_wide.2 (fit_even (hw.belowW hbB) (hps.below hbB))).mono ?_
 rintro e w1 ⟨hb1,hw1,pc,rfl,hpc,hev⟩
 obtain ⟨i28,z28,hi28,hz28,hzs⟩:=pol_zero
 have hpl:pc.size=56:=by simpa using hpc.len
 have hone:=polR_one hpc
 refine hK2 _ _ ?_
 refine in_alloc rfl rfl hi28 hz28 ?_
 simp only [Act.put,List.setIfInBounds_toArray,List.set_cons_succ,List.set_cons_zero]
 refine in_store (b:=w1.heap.size) (off:=0) (xs:=pc) (v:=.agg pc) rfl rfl rfl rfl rfl hone (by rw [hpl]; exact pol_info) (heap_alloc_new w1 _) (by omega) fun w2 hw2=>?_
 simp only [Act.put,List.setIfInBounds_toArray,List.set_cons_succ,List.set_cons_zero]
 refine wpListIn_nil ?_
 refine hK1 _ _ ?_
 gi_wp2_with (fail)
 have hmx:Tryz.prog.follows .mixedOrders=true:=by kernel_rfl
 have c2:w2.heap[w1.heap.size]?=some (.cells pc 28 (0,0)):=by
  have:=hw2.cell
  rwa [sh_spl hzs hpl] at this
 have z1:=hb1.size
 have z2:w2.heap.size=w1.heap.size+1:=by rw [hw2.size,alloc_size]
 have k12:∀ n,n<w1.heap.size→w2.heap[n]?=w1.heap[n]?:=fun n hn=>(hw2.same n (by omega)).trans (alloc_same w1 _ n hn)
 have b12:Below w1.heap.size w1 w2:=⟨hw2.os,hw2.tape,hw2.output,by omega,k12⟩
 obtain ⟨wD,hwD⟩:∃ wD,wD=w2.drew:=⟨_,rfl⟩
 have hD:wD.heap=w2.heap:=by rw [hwD]; rfl
 have b2D:Below w2.heap.size w2 wD:=by rw [hwD]; exact ⟨rfl,rfl,rfl,Nat.le_refl _,fun n _=>rfl⟩
 have bBD:Below wB.heap.size wB wD:=⟨b2D.os.trans (b12.os.trans hb1.os),b2D.tape.trans (b12.tape.trans hb1.tape),b2D.output.trans (b12.output.trans hb1.output),by rw [hD]; omega,fun n hn=>by rw [hD,k12 n (by omega)]; exact hb1.block n hn⟩
 have bwD:Below w.heap.size w wD:=⟨bBD.os.trans hbB.os,bBD.tape.trans hbB.tape,bBD.output.trans hbB.output,by rw [hD]; omega,fun n hn=>by rw [bBD.block n (by omega)]; exact hbB.block n hn⟩
 have b0D:Below w00.heap.size w00 wD:=⟨bwD.os.trans hbl.os,bwD.tape.trans hbl.tape,bwD.output.trans hbl.output,Nat.le_trans hbl.size bwD.size,fun n hn=>by rw [bwD.block n (Nat.lt_of_lt_of_le hn hbl.size)]; exact hbl.block n hn⟩
 have cD:wD.heap[w1.heap.size]?=some (.cells pc 28 (0,0)):=by rw [hD]; exact c2
 have hpD:PolR wD pc.toList:=hpc.keep (by rw [hD]; omega) fun n hn=>by
  obtain ⟨a,ln,rfl,_,_,vs,e,fr,hg,_⟩:=hn
  rw [hD]
  exact k12 _ (Array.getElem?_eq_some_iff.1 hg).1
 obtain ⟨old,ho1,ho2,ho3⟩:=hrB
 have oD:wD.heap[w.heap.size+1]?=some (.cells old 28 (0,0)):=(bBD.block _ (by omega)).trans ho1
 have hN:=new_alive (w00:=w00) hw0 b0D (hw.belowW bwD) hpD hev
 refine wpIn_wide.2 (wp_region_any hmx ?_)
 show wpAny _ _ _ _ 5 #[false,false,false,false,false] _ _
 have hwD':({ w2 with drawn:=w2.drawn+1 }:World)=wD:=by rw [hwD]; rfl
 rw [hwD']
 rename_i K3 hK3
 have hltD:w1.heap.size<wD.heap.size:=(Array.getElem?_eq_some_iff.1 cD).1
 have hlt1:w.heap.size+1<wD.heap.size:=(Array.getElem?_eq_some_iff.1 oD).1
 have fin:∀ (w3 w4:World) (M:Nat),Below wD.heap.size wD w3→GlW w3→wD.heap.size≤M→M<w3.heap.size→Alive pc w00 wD w3 M→Wr w3 w4 (w.heap.size+1) (spl old.toList 0 pc.toList).toArray 28 →
   K3 { tmps:=#[.agg ps,.pointer (some ⟨w.heap.size,0,none⟩),.pointer (some ⟨M,0,none⟩),.pointer (some ⟨w.heap.size+1,0,none⟩),.pointer (some ⟨w1.heap.size,0,none⟩),.agg ps,.agg pc,.agg pc,.pointer (some ⟨M,0,none⟩),.agg pc],defers:=[] } w4:=by
  intro w3 w4 M hb3 hw3 hM1 hM2 hres hw4
  have z3:=hb3.size
  have z4:w4.heap.size=w3.heap.size:=hw4.size
  have zD:=bwD.size
  have z0:=hbl.size
  have c4:w4.heap[w.heap.size+1]?=some (.cells pc 28 (0,0)):=by
   have:=hw4.cell
   rwa [sh_spl ho2 hpl] at this
  have k34:∀ n,n≠w.heap.size+1→w4.heap[n]?=w3.heap[n]?:=hw4.same
  have o3:w3.heap[w.heap.size+1]?=some (.cells old 28 (0,0)):=(hb3.block _ hlt1).trans oD
  have hnb:∀ n,(∃ a ln,a.block=n∧1≤ln∧ByteRow w3 (some a) ln)→n≠w.heap.size+1:=fun n hn e=>no_byte o3 ho3 (e ▸ hn)
  have hbw4:Below w.heap.size w w4:=⟨hw4.os.trans (hb3.os.trans bwD.os),hw4.tape.trans (hb3.tape.trans bwD.tape),hw4.output.trans (hb3.output.trans bwD.output),by omega,fun n hn=>by rw [k34 n (by omega),hb3.block n (by omega)]; exact bwD.block n hn⟩
  have hg4:GlW w4:=hw.belowW hbw4
  have hp3:PolR w3 pc.toList:=hpD.keep z3 fun n hn=>by
   obtain ⟨a,ln,rfl,_,_,vs,e,fr,hg,_⟩:=hn
   exact hb3.block _ (Array.getElem?_eq_some_iff.1 hg).1
  have hp4:PolR w4 pc.toList:=hp3.keep (by omega) fun n hn=>k34 n (hnb n hn)
  have hmach:∃ MO,MachD pc w00 M MO w4 (some d00)∧∀ n,MO n→n<w00.heap.size∨w.heap.size+2≤n∨∃ a ln,a.block=n∧1≤ln∧ByteRow w4 (some a) ln:=by
   obtain ⟨pc',Bc,MO,hp',hs,hI,hf⟩:=hres
   have hne:∀ n,MO n→n≠w.heap.size+1:=fun n hn=>by
    rcases hf n hn with h | h | h
    ·omega
    ·omega
    ·exact hnb n h
   refine ⟨MO,⟨pc',Bc,hp'.fit,hs,MInv.keep (fun d O w w' h hS=>h.keep hS) hI ⟨by omega,fun n hn=>k34 n (hne n hn),hw4.os,hw4.tape,hw4.output⟩⟩,fun n hn=>?_⟩
   rcases hf n hn with h | h | h
   ·exact .inl h
   ·exact .inr (.inl (by omega))
   ·have hk:=hnb n h
    obtain ⟨a,ln,rfl,h1,h2,vs,e,fr,h3,h4⟩:=h
    exact .inr (.inr ⟨a,ln,rfl,h1,h2,vs,e,fr,(k34 _ hk).trans h3,h4⟩)
  obtain ⟨MO,hm1,hm3⟩:=hmach
  refine hK3 _ _ ?_
  gi_wp2
  have hload:=run_loadVar_mid (P:=Tryz.prog) w4 (w.heap.size+1) 0 28 pc.toList d28 (fun j u hu=>by rw [SE.cell_at c4,Nat.zero_add]; simpa using hu) hd28 hr28 (by rw [Array.length_toList,hpl]; exact pol_info)
  rw [Array.toArray_toList] at hload
  exact ⟨rfl,_,results_two rfl rfl hload,M,pc,MO,rfl,hbw4,hg4,hp4,hm1,hm3⟩
 refine wpAny_two (i:=0) (j:=2) (by kernel_rfl) ?_ ?_
 ·refine op_val (i:=0) rfl rfl (run_rowload (b:=w1.heap.size) (off:=0) (n:=56) (d:=d28) rfl rfl cD hd28 hr28 pol_info (by omega)) ?_
  simp only [List.getElem_toArray,List.getElem_cons_zero,List.getElem_cons_succ,Act.put,List.setIfInBounds_toArray,List.set_cons_succ,List.set_cons_zero]
  rw [take_all hpl]
  refine wpAny_two (i:=1) (j:=2) (by kernel_rfl) ?_ ?_
  ·refine op_call (i:=1) (f:=17) (args:=#[.agg pc]) rfl rfl (run_callf rfl Tryz.func17 name17 body17 (by simp [Act.eval])) (hN.mono ?_)
   rintro e w3 ⟨hb3,hw3,M,rfl,hM1,hM2,hres⟩
   refine ⟨_,rfl,?_⟩
   simp only [List.getElem_toArray,List.getElem_cons_zero,List.getElem_cons_succ,Act.put,List.setIfInBounds_toArray,List.set_cons_succ,List.set_cons_zero]
   refine wpAny_two (i:=2) (j:=3) (by kernel_rfl) ?_ ?_
   ·refine op_val (i:=2) rfl rfl (run_rowload (b:=w1.heap.size) (off:=0) (n:=56) (d:=d28) rfl rfl ((hb3.block _ hltD).trans cD) hd28 hr28 pol_info (by omega)) ?_
    simp only [List.getElem_toArray,List.getElem_cons_zero,List.getElem_cons_succ,Act.put,List.setIfInBounds_toArray,List.set_cons_succ,List.set_cons_zero]
    rw [take_all hpl]
    refine wpAny_one (i:=3) (by kernel_rfl) ?_
    refine op_val (i:=3) (v:=.pointer (some ⟨M,0,none⟩)) rfl rfl (run_assign rfl rfl) ?_
    simp only [List.getElem_toArray,List.getElem_cons_zero,List.getElem_cons_succ,Act.put,List.setIfInBounds_toArray,List.set_cons_succ,List.set_cons_zero]
    refine wpAny_one (i:=4) (by kernel_rfl) ?_
    refine op_store (i:=4) (b:=w.heap.size+1) (off:=0) (old:=old) (xs:=pc) (v:=.agg pc) rfl rfl rfl rfl rfl rfl hone (by rw [hpl]; exact pol_info) ((hb3.block _ hlt1).trans oD) (by omega) fun w4 hw4=>?_
    simp only [List.getElem_toArray,List.getElem_cons_zero,List.getElem_cons_succ,Act.put,List.setIfInBounds_toArray,List.set_cons_succ,List.set_cons_zero]
    refine wpAny_end (by kernel_rfl) ?_
    exact fin w3 w4 M hb3 hw3 hM1 hM2 hres hw4
   ·refine op_val (i:=3) (v:=.pointer (some ⟨M,0,none⟩)) rfl rfl (run_assign rfl rfl) ?_
    simp only [List.getElem_toArray,List.getElem_cons_zero,List.getElem_cons_succ,Act.put,List.setIfInBounds_toArray,List.set_cons_succ,List.set_cons_zero]
    refine wpAny_one (i:=2) (by kernel_rfl) ?_
    refine op_val (i:=2) rfl rfl (run_rowload (b:=w1.heap.size) (off:=0) (n:=56) (d:=d28) rfl rfl ((hb3.block _ hltD).trans cD) hd28 hr28 pol_info (by omega)) ?_
    simp only [List.getElem_toArray,List.getElem_cons_zero,List.getElem_cons_succ,Act.put,List.setIfInBounds_toArray,List.set_cons_succ,List.set_cons_zero]
    rw [take_all hpl]
    refine wpAny_one (i:=4) (by kernel_rfl) ?_
    refine op_store (i:=4) (b:=w.heap.size+1) (off:=0) (old:=old) (xs:=pc) (v:=.agg pc) rfl rfl rfl rfl rfl rfl hone (by rw [hpl]; exact pol_info) ((hb3.block _ hlt1).trans oD) (by omega) fun w4 hw4=>?_
    simp only [List.getElem_toArray,List.getElem_cons_zero,List.getElem_cons_succ,Act.put,List.setIfInBounds_toArray,List.set_cons_succ,List.set_cons_zero]
    refine wpAny_end (by kernel_rfl) ?_
    exact fin w3 w4 M hb3 hw3 hM1 hM2 hres hw4
  ·refine op_val (i:=2) rfl rfl (run_rowload (b:=w1.heap.size) (off:=0) (n:=56) (d:=d28) rfl rfl cD hd28 hr28 pol_info (by omega)) ?_
   simp only [List.getElem_toArray,List.getElem_cons_zero,List.getElem_cons_succ,Act.put,List.setIfInBounds_toArray,List.set_cons_succ,List.set_cons_zero]
   rw [take_all hpl]
   refine wpAny_one (i:=1) (by kernel_rfl) ?_
   refine op_call (i:=1) (f:=17) (args:=#[.agg pc]) rfl rfl (run_callf rfl Tryz.func17 name17 body17 (by simp [Act.eval])) (hN.mono ?_)
   rintro e w3 ⟨hb3,hw3,M,rfl,hM1,hM2,hres⟩
   refine ⟨_,rfl,?_⟩
   simp only [List.getElem_toArray,List.getElem_cons_zero,List.getElem_cons_succ,Act.put,List.setIfInBounds_toArray,List.set_cons_succ,List.set_cons_zero]
   refine wpAny_one (i:=3) (by kernel_rfl) ?_
   refine op_val (i:=3) (v:=.pointer (some ⟨M,0,none⟩)) rfl rfl (run_assign rfl rfl) ?_
   simp only [List.getElem_toArray,List.getElem_cons_zero,List.getElem_cons_succ,Act.put,List.setIfInBounds_toArray,List.set_cons_succ,List.set_cons_zero]
   refine wpAny_one (i:=4) (by kernel_rfl) ?_
   refine op_store (i:=4) (b:=w.heap.size+1) (off:=0) (old:=old) (xs:=pc) (v:=.agg pc) rfl rfl rfl rfl rfl rfl hone (by rw [hpl]; exact pol_info) ((hb3.block _ hlt1).trans oD) (by omega) fun w4 hw4=>?_
   simp only [List.getElem_toArray,List.getElem_cons_zero,List.getElem_cons_succ,Act.put,List.setIfInBounds_toArray,List.set_cons_succ,List.set_cons_zero]
   refine wpAny_end (by kernel_rfl) ?_
   exact fin w3 w4 M hb3 hw3 hM1 hM2 hres hw4
 ·refine op_val (i:=2) rfl rfl (run_rowload (b:=w1.heap.size) (off:=0) (n:=56) (d:=d28) rfl rfl cD hd28 hr28 pol_info (by omega)) ?_
  simp only [List.getElem_toArray,List.getElem_cons_zero,List.getElem_cons_succ,Act.put,List.setIfInBounds_toArray,List.set_cons_succ,List.set_cons_zero]
  rw [take_all hpl]
  refine wpAny_one (i:=0) (by kernel_rfl) ?_
  refine op_val (i:=0) rfl rfl (run_rowload (b:=w1.heap.size) (off:=0) (n:=56) (d:=d28) rfl rfl cD hd28 hr28 pol_info (by omega)) ?_
  simp only [List.getElem_toArray,List.getElem_cons_zero,List.getElem_cons_succ,Act.put,List.setIfInBounds_toArray,List.set_cons_succ,List.set_cons_zero]
  rw [take_all hpl]
  refine wpAny_one (i:=1) (by kernel_rfl) ?_
  refine op_call (i:=1) (f:=17) (args:=#[.agg pc]) rfl rfl (run_callf rfl Tryz.func17 name17 body17 (by simp [Act.eval])) (hN.mono ?_)
  rintro e w3 ⟨hb3,hw3,M,rfl,hM1,hM2,hres⟩
  refine ⟨_,rfl,?_⟩
  simp only [List.getElem_toArray,List.getElem_cons_zero,List.getElem_cons_succ,Act.put,List.setIfInBounds_toArray,List.set_cons_succ,List.set_cons_zero]
  refine wpAny_one (i:=3) (by kernel_rfl) ?_
  refine op_val (i:=3) (v:=.pointer (some ⟨M,0,none⟩)) rfl rfl (run_assign rfl rfl) ?_
  simp only [List.getElem_toArray,List.getElem_cons_zero,List.getElem_cons_succ,Act.put,List.setIfInBounds_toArray,List.set_cons_succ,List.set_cons_zero]
  refine wpAny_one (i:=4) (by kernel_rfl) ?_
  refine op_store (i:=4) (b:=w.heap.size+1) (off:=0) (old:=old) (xs:=pc) (v:=.agg pc) rfl rfl rfl rfl rfl rfl hone (by rw [hpl]; exact pol_info) ((hb3.block _ hlt1).trans oD) (by omega) fun w4 hw4=>?_
  simp only [List.getElem_toArray,List.getElem_cons_zero,List.getElem_cons_succ,Act.put,List.setIfInBounds_toArray,List.set_cons_succ,List.set_cons_zero]
  refine wpAny_end (by kernel_rfl) ?_
  exact fin w3 w4 M hb3 hw3 hM1 hM2 hres hw4
end SE
end
section
open Go.RowKit
set_option maxHeartbeats 4000000
theorem rrank_any (pc:Array Value) (s:Int) (w:World) (hp:PolOk pc):Calls Tryz.prog 21 #[.agg pc,.int .i64 s] w fun e w'=>e=.returned (.int .i64 (rank pc s))∧Below w.heap.size w w':=by
 have p0:=hp.at_ 0 (by omega) (by omega)
 have p1:=hp.at_ 1 (by omega) (by omega)
 have p2:=hp.at_ 2 (by omega) (by omega)
 have p3:=hp.at_ 3 (by omega) (by omega)
 have p4:=hp.at_ 4 (by omega) (by omega)
 clear hp
 by_cases h0:pI pc 0=s
 ·have e:rank pc s=0:=by unfold rank rankOf; rw [ if_pos h0]
  have HE:=Lib.hid e
  clear e
  go_enter Tryz.func21,Tryz.ntmps21
  go_wp2
  refine wp_loop_rounds 6 ?_
  rw [rounds_succ]
  go_wp2
  go_ret
  exact ⟨by rw [HE.out]; rfl,(by (repeat (first | (with_reducible assumption) | (with_reducible refine below_set ?_ _ _ (by simp)) | (with_reducible refine below_al ?_ _) | (with_reducible refine below_dr ?_) | (with_reducible exact Below.refl _ _) | (with_reducible refine bel_call ?_ (by assumption)))))⟩
 ·skip
  by_cases h1:pI pc 1=s
  ·have e:rank pc s=1:=by unfold rank rankOf; rw [if_neg h0,if_pos h1]
   have HE:=Lib.hid e
   clear e
   go_enter Tryz.func21,Tryz.ntmps21
   go_wp2
   refine wp_loop_rounds 6 ?_
   rw [rounds_succ]
   go_wp2
   rw [rounds_succ]
   go_wp2
   go_ret
   exact ⟨by rw [HE.out]; rfl,(by (repeat (first | (with_reducible assumption) | (with_reducible refine below_set ?_ _ _ (by simp)) | (with_reducible refine below_al ?_ _) | (with_reducible refine below_dr ?_) | (with_reducible exact Below.refl _ _) | (with_reducible refine bel_call ?_ (by assumption)))))⟩
  ·skip
   by_cases h2:pI pc 2=s
   ·have e:rank pc s=2:=by unfold rank rankOf; rw [if_neg h0,if_neg h1,if_pos h2]
    have HE:=Lib.hid e
    clear e
    go_enter Tryz.func21,Tryz.ntmps21
    go_wp2
    refine wp_loop_rounds 6 ?_
    rw [rounds_succ]
    go_wp2
    rw [rounds_succ]
    go_wp2
    rw [rounds_succ]
    go_wp2
    go_ret
    exact ⟨by rw [HE.out]; rfl,(by (repeat (first | (with_reducible assumption) | (with_reducible refine below_set ?_ _ _ (by simp)) | (with_reducible refine below_al ?_ _) | (with_reducible refine below_dr ?_) | (with_reducible exact Below.refl _ _) | (with_reducible refine bel_call ?_ (by assumption)))))⟩
   ·skip
    by_cases h3:pI pc 3=s
    ·have e:rank pc s=3:=by unfold rank rankOf; rw [if_neg h0,if_neg h1,if_neg h2,if_pos h3]
     have HE:=Lib.hid e
     clear e
     go_enter Tryz.func21,Tryz.ntmps21
     go_wp2
     refine wp_loop_rounds 6 ?_
     rw [rounds_succ]
     go_wp2
     rw [rounds_succ]
     go_wp2
     rw [rounds_succ]
     go_wp2
     rw [rounds_succ]
     go_wp2
     go_ret
     exact ⟨by rw [HE.out]; rfl,(by (repeat (first | (with_reducible assumption) | (with_reducible refine below_set ?_ _ _ (by simp)) | (with_reducible refine below_al ?_ _) | (with_reducible refine below_dr ?_) | (with_reducible exact Below.refl _ _) | (with_reducible refine bel_call ?_ (by assumption)))))⟩
    ·skip
     by_cases h4:pI pc 4=s
     ·have e:rank pc s=4:=by unfold rank rankOf; rw [if_neg h0,if_neg h1,if_neg h2,if_neg h3,if_pos h4]
      have HE:=Lib.hid e
      clear e
      go_enter Tryz.func21,Tryz.ntmps21
      go_wp2
      refine wp_loop_rounds 6 ?_
      rw [rounds_succ]
      go_wp2
      rw [rounds_succ]
      go_wp2
      rw [rounds_succ]
      go_wp2
      rw [rounds_succ]
      go_wp2
      rw [rounds_succ]
      go_wp2
      go_ret
      exact ⟨by rw [HE.out]; rfl,(by (repeat (first | (with_reducible assumption) | (with_reducible refine below_set ?_ _ _ (by simp)) | (with_reducible refine below_al ?_ _) | (with_reducible refine below_dr ?_) | (with_reducible exact Below.refl _ _) | (with_reducible refine bel_call ?_ (by assumption)))))⟩
     ·skip
      have e:rank pc s=-1:=by unfold rank rankOf; rw [if_neg h0,if_neg h1,if_neg h2,if_neg h3,if_neg h4]
      have HE:=Lib.hid e
      clear e
      go_enter Tryz.func21,Tryz.ntmps21
      go_wp2
      refine wp_loop_rounds 6 ?_
      rw [rounds_succ]
      go_wp2
      rw [rounds_succ]
      go_wp2
      rw [rounds_succ]
      go_wp2
      rw [rounds_succ]
      go_wp2
      rw [rounds_succ]
      go_wp2
      rw [rounds_succ]
      go_wp2
      go_ret
      exact ⟨by rw [HE.out]; rfl,(by (repeat (first | (with_reducible assumption) | (with_reducible refine below_set ?_ _ _ (by simp)) | (with_reducible refine below_al ?_ _) | (with_reducible refine below_dr ?_) | (with_reducible exact Below.refl _ _) | (with_reducible refine bel_call ?_ (by assumption)))))⟩
end
section
namespace SE
open Go.RowKit Mc In
theorem Below.to {w w1 w2:World} (h:Below w.heap.size w w1) (k:Below w1.heap.size w1 w2):Below w.heap.size w w2 :=
 ⟨k.os.trans h.os,k.tape.trans h.tape,k.output.trans h.output,Nat.le_trans h.size k.size,fun n hn=>(k.block n (Nat.lt_of_lt_of_le hn h.size)).trans (h.block n hn)⟩
theorem set_pol {w2 w3:World} {cs pc:Array Value} (hW:Wr (w2.alloc (.cells cs 28)) w3 w2.heap.size (spl cs.toList 0 pc.toList).toArray 28) (hcs:cs.size=56) (hpl:pc.size=56):Below w2.heap.size w2 w3∧w3.heap[w2.heap.size]?=some (.cells pc 28 (0,0))∧w3.heap.size=w2.heap.size+1:=by
 have hz:w3.heap.size=w2.heap.size+1:=by rw [hW.size,alloc_size]
 refine ⟨⟨hW.os,hW.tape,hW.output,by omega,fun n hn=>(hW.same n (by omega)).trans (alloc_same w2 _ n hn)⟩,?_,hz⟩
 have:=hW.cell
 rwa [sh_spl hcs hpl] at this
theorem EvsIn.below {w w':World} {b:Option Addr} {n c:Nat} (h:EvsIn w b n c) (hb:Below w.heap.size w w'):EvsIn w' b n c:=by
 obtain ⟨h1,h2,es,h3,h4,h5⟩:=h
 refine ⟨h1,h2,es,h3,fun e he=>?_,(h5.below hb).more hb.size⟩
 have q:=h4 e he
 obtain ⟨x,hx⟩:=q.rd
 exact ⟨q.k,q.s,q.x1,q.x2,q.x3,q.x4,q.le,q.mx,x,(hx.below hb).more hb.size⟩
end SE
end
section
namespace SE
open Go.RowKit Mc In
attribute [local go_sem] Oper.semAt_some
set_option maxHeartbeats 4000000
theorem rhigher_any (pc:Array Value) (x y:Int) (w:World) (hp:PolOk pc) (hpl:pc.size=56) (h:0≤rank pc x∧rank pc x<rank pc y):Calls Tryz.prog 12 #[.agg pc,.int .i64 x,.int .i64 y] w fun e w'=>e=.returned (.bool true)∧Below w.heap.size w w':=by
 obtain ⟨d28,hd28,hr28⟩:=pol_un
 refine (callsIn_wide (n:=3)).1 (callsIn_of_wp Tryz.func12 rfl trivial ?_ rfl)
 simp only [Tryz.ntmps12,List.size_toArray,List.length_cons,List.length_nil,Nat.reduceAdd,Nat.reduceSub,Array.replicate_succ,Array.replicate_zero,List.push_toArray,List.append_toArray,List.nil_append,List.cons_append]
 gi_wp2_with (refine in_load (b:=w.heap.size) (off:=0) (n:=56) (d:=d28) rfl rfl rfl (heap_alloc_new w _) hd28 hr28 pol_info (by omega) ?_; rw [take_all hpl])
 rename_i K1 hK1
 refine ⟨trivial,?_⟩
 generalize hwA:World.alloc w _=wA
 have hbA:Below w.heap.size w wA:=by rw [← hwA]; exact (Below.refl _ _).alloc (Nat.le_refl _) _
 have hboxA:wA.heap[w.heap.size]?=some (.cells pc 28 (0,0)):=by rw [← hwA]; exact heap_alloc_new w _
 have hlA:w.heap.size<wA.heap.size:=(Array.getElem?_eq_some_iff.1 hboxA).1
 refine (callsIn_wide.2 (rrank_any pc x wA hp)).mono ?_
 rintro e w1 ⟨rfl,hb1⟩
 have hbox1:w1.heap[w.heap.size]?=some (.cells pc 28 (0,0)):=(hb1.block _ hlA).trans hboxA
 refine hK1 _ _ ?_
 gi_wp2_with (refine in_load (b:=w.heap.size) (off:=0) (n:=56) (d:=d28) rfl rfl rfl hbox1 hd28 hr28 pol_info (by omega) ?_; rw [take_all hpl])
 rename_i K2 hK2
 refine ⟨trivial,?_⟩
 refine (callsIn_wide.2 (rrank_any pc y w1 hp)).mono ?_
 rintro e w2 ⟨rfl,hb2⟩
 refine hK2 _ _ ?_
 generalize rank pc x=rx at h ⊢
 generalize rank pc y=ry at h ⊢
 obtain ⟨h1,h2⟩:=h
 have h3:0≤ry:=by omega
 gi_wp2
 go_ret
 exact ⟨rfl,Below.to hbA (Below.to hb1 hb2)⟩
end SE
end
end Go.Proofs.YtdgejnakakjgfaaGreatDoor
