/- The core of the program, as the machine sees it: its numbers; what is told of a call. A call of the core, as the machine sees it. What link 1 says: runs. What link 1 says: runs. -/
import Derived.Test.YtdgejnakakjgfaaGreatDoorQ20
import Derived.Test.YtdgejnakakjgfaaGreatDoorQ21
set_option linter.unusedVariables false
set_option linter.unusedSimpArgs false
set_option maxRecDepth 100000
namespace Go.Proofs.YtdgejnakakjgfaaGreatDoor
section
namespace SE
open Go.RowKit Mc
variable {X:Px} {own0:Nat→Prop} {w0 w w':World} {E E':Env} {st st':SE.St} {pc:Array Value}
structure Num where
  on:Int×Int×Int
  ro:Int×Int×Int
  wt:Int×Int×Int
def At3 (E:Env) (i:Nat) (p:Int×Int×Int):Prop:=E i=some (.z p.1)∧E (i+1)=some (.z p.2.1)∧E (i+2)=some (.z p.2.2)
structure NumE (E:Env) (b:Nat) (d:Num):Prop where
  on:At3 E (b+231) d.on
  ro:At3 E (b+234) d.ro
  wt:At3 E (b+237) d.wt
def get3 (p:Int×Int×Int) (s:Int):Int:=if s=1 then p.1 else if s=2 then p.2.1 else p.2.2
theorem get3_put {p:Int×Int×Int} {s t v:Int} (hs:1≤s∧s≤3) (ht:1≤t∧t≤3):get3 (put3 p t v) s=if s=t then v else get3 p s:=by
  have h1:s=1∨s=2∨s=3:=by omega
  have h2:t=1∨t=2∨t=3:=by omega
  rcases h1 with rfl | rfl | rfl <;> rcases h2 with rfl | rfl | rfl <;> simp [get3,put3]
theorem put3_out {p:Int×Int×Int} {t v:Int} (ht:¬ (1≤t∧t≤3)):put3 p t v=p:=put3_no ht p v
theorem get3_put' {p:Int×Int×Int} {s t v:Int} (hs:1≤s∧s≤3):get3 (put3 p t v) s=if s=t then v else get3 p s:=by
  by_cases ht:1≤t∧t≤3
  · exact get3_put hs ht
  · rw [put3_out ht,if_neg (by omega)]
def fold (d:Num) (rs:List Rc):Fd:=rs.foldl Fd.step ⟨d.on,d.wt,(0,0,0)⟩
theorem step_en (f:Fd) (r:Rc):(f.step r).en=if r.kind=3 then put3 f.en r.src 1 else f.en:=by
  unfold Fd.step
  split
  · rfl
  · split
    · rfl
    · split
      · rfl
      · split <;> rfl
theorem en_keeps {s:Int} (hs:1≤s∧s≤3):∀ (rs:List Rc) (f:Fd),get3 f.en s=1→get3 (rs.foldl Fd.step f).en s=1
  | [],f,h=>h
  | r :: rs,f,h=>by
    refine en_keeps hs rs _ ?_
    rw [step_en]
    split
    · rw [get3_put' hs]
      split
      · rfl
      · exact h
    · exact h
theorem en_zero {s:Int} (hs:1≤s∧s≤3):∀ (rs:List Rc) (f:Fd),get3 (rs.foldl Fd.step f).en s=0→∀ r∈rs,r.kind=3→r.src≠s
  | [],f,h,r,hr,_=>by cases hr
  | q :: rs,f,h,r,hr,hk=>by
    rcases List.mem_cons.1 hr with rfl | hr
    · intro e
      have:=en_keeps hs rs (f.step r) (by rw [step_en,if_pos hk,get3_put' hs,if_pos e.symm])
      rw [List.foldl_cons] at h
      rw [this] at h
      cases h
    · exact en_zero hs rs _ (by rw [List.foldl_cons] at h; exact h) r hr hk
theorem en_one {s:Int} (hs:1≤s∧s≤3):∀ (rs:List Rc) (f:Fd),get3 (rs.foldl Fd.step f).en s=1→get3 f.en s=1∨∃ r∈rs,r.kind=3∧r.src=s
  | [],f,h=>.inl h
  | q :: rs,f,h=>by
    rcases en_one hs rs _ (by rw [List.foldl_cons] at h; exact h) with h | ⟨r,hr,h1,h2⟩
    · rw [step_en] at h
      split at h
      · rename_i hk
        rw [get3_put' hs] at h
        split at h
        · rename_i e
          exact .inr ⟨q,List.mem_cons_self,hk,e.symm⟩
        · exact .inl h
      · exact .inl h
    · exact .inr ⟨r,List.mem_cons_of_mem _ hr,h1,h2⟩
structure Rel (late:Bool) (who:Int→Prop) (d d':Num) (rs:List Rc):Prop where
  on:(fold d rs).on=d'.on
  wt:late=false→(fold d rs).wt=d'.wt
  wtl:∀ s,1≤s→s≤3→get3 d'.wt s≤get3 (fold d rs).wt s
  en:∀ r∈rs,r.kind=3→1≤r.src∧r.src≤3→who r.src
  role:∀ s,1≤s→s≤3→(∃ r∈rs,r.kind=3∧r.src=s)∨get3 d'.on s=0∨get3 d'.ro s=get3 d.ro s
def sees (wL:World) (E:Env) (n:Nat):Prop :=
  n<wL.heap.size∨(∃ id blk,lk coreHeap id=some blk∧E id=some (.blk n))∨(∃ id len a ln cap,lk coreSls id=some (.bytes len)∧E id=some (.sl (some a) ln cap)∧a.block=n)∨∃ cs,glT n=some cs
structure KC (pc:Array Value) (wL:World) (Bc:Nat) (d:Num) (O:Foot) (w:World):Prop where
  ex:∃ E,G (Xc pc) (fun _=>False) wL E coreSt w∧NumE E 0 d∧E 1=some (.blk Bc)∧∀ n,sees wL E n→O n
  lt:∀ n,O n→n<w.heap.size
theorem KC.keep {wL:World} {Bc:Nat} {d:Num} {O:Foot} (h:KC pc wL Bc d O w) (hS:Same O w w'):KC pc wL Bc d O w':=by
  obtain ⟨⟨E,g,hn,h1,hs⟩,hlt⟩:=h
  refine ⟨⟨E,(g.keep hS.size (fun n hn hsee=>hS.same n (hs n ?_)) hS.os hS.tape hS.output),hn,h1,hs⟩,fun n hO=>Nat.lt_of_lt_of_le (hlt n hO) hS.size⟩
  rcases hsee with h | h | h | h
  · exact .inl h
  · exact .inr (.inl h)
  · exact .inr (.inr (.inl h))
  · exact .inr (.inr (.inr h))
def renT:List (Nat×Rn):=(List.range 300).map fun i=>(i,lfT i)
theorem lk_renT {i:Nat} (h:i<300):lk renT i=some (lfT i):=by
  have:∀ n a,a≤i→i<a+n→lk ((List.range' a n).map fun i=>(i,lfT i)) i=some (lfT i):=by
    intro n
    induction n with
    | zero=>intro a h1 h2; omega
    | succ n ih =>
      intro a h1 h2
      rw [List.range'_succ,List.map_cons,lk_cons]
      split
      · rename_i e; rw [e]
      · exact ih (a+1) (by omega) (by omega)
  have:=this 300 0 (by omega) (by omega)
  rw [← List.range_eq_range'] at this
  exact this
theorem env_renT {E:Env} {i j:Nat} (h:i<300) (hj:lfT i=.nm j):envOf ⟨0,renT⟩ E i=E j:=by
  simp only [envOf,rnf0,lk_renT h,hj]
structure TlOk (S:SE.St) (n:Int) (ws:List SV) (a b c:Int):Prop where
  m:lk S.tab 2000214=some (0,4)
  cl:lk S.tab 2000215=some (1,3)
  o0:(0,[A 2000220])∈S.facts
  o1:(0,[A 2000221])∈S.facts
  o2:(0,[A 2000222])∈S.facts
  o3:(0,[A 2000223])∈S.facts
  s31:lk S.sls 2000031=some (.own 2000006 3 [U 0 n])
  s32:lk S.sls 2000032=some (.own 2000007 2 ([U 0 n,A 231,A 232,A 233,A 237,A 238,A 239]++newF++ws++[N a,N b,N c]))
  f1:lk S.tab 2000231=some (0,1)
  f2:lk S.tab 2000232=some (0,1)
  f3:lk S.tab 2000233=some (0,1)
  r1:lk S.tab 2000234=some (0,3)
  r2:lk S.tab 2000235=some (0,3)
  r3:lk S.tab 2000236=some (0,3)
  q1:lk S.tab 2000237=some (0,1)
  q2:lk S.tab 2000238=some (0,1)
  q3:lk S.tab 2000239=some (0,1)
  l1:(12,[N a,A 2000231,A 2000234,A 234])∈S.facts
  l2:(12,[N b,A 2000232,A 2000235,A 235])∈S.facts
  l3:(12,[N c,A 2000233,A 2000236,A 236])∈S.facts
  fc:fit coreSt S zT ⟨0,renT⟩=true
  ro:∀ id blk,lk S.heap id=some blk→blk.isRo=false
theorem rA {E:Env} {i:Nat} {z:Int} {v:Value} (h:E i=some (.z z)) (hr:R E (A i) v):v=i64 z:=by
  simp only [A,R,SIok] at hr
  obtain ⟨y,hy,rfl⟩:=hr
  rw [h] at hy
  cases hy
  rfl
theorem rA' {E:Env} {i:Nat} {z:Int} (hr:R E (A i) (i64 z)):E i=some (.z z):=by
  simp only [A,R,SIok] at hr
  obtain ⟨y,hy,e⟩:=hr
  cases e
  exact hy
theorem rN {E:Env} {n z:Int} (hr:R E (N n) (i64 z)):z=n:=by
  simp only [N,R,SIok] at hr
  obtain ⟨y,hy,e⟩:=hr
  cases e
  omega
theorem own_reads {nm e sz:Nat} {vs:List Value} {base:Option Addr} {ln cap b:Nat} (hE:X.T.ownE nm=some (e,sz)) (hb:∀ x,base=some x→E b=some (.blk x.block)) (hlt:∀ n,E b=some (.blk n)→n<w.heap.size)
    (h:OwnRow X nm vs base ln cap (base.bind fun x=>w.heap[x.block]?)):∃ us rest,vs=i64 ln::rest∧Reads w w.heap.size sz base ln us∧X.RP nm rest us:=by
  obtain ⟨e',sz',rest,h1,h2,h3⟩:=h
  rw [hE] at h1
  cases h1
  rcases h3 with ⟨rfl,rfl,_,h3⟩ | ⟨n,us,rfl,h3,h4,h5,h6⟩
  · exact ⟨[],rest,h2,⟨by simp,fun h=>absurd h (by omega)⟩,h3⟩
  · refine ⟨us.toList.take (ln*sz),rest,h2,⟨?_,fun _=>⟨_,rfl,hlt n (hb _ rfl),fun j u hu=>?_⟩⟩,h6⟩
    · rw [List.length_take,Array.length_toList,h4]
      exact Nat.min_eq_left (Nat.mul_le_mul_right _ h5)
    · simp only [Option.bind_some] at h3
      rw [add_none,Nat.zero_add,cell_at h3]
      rw [List.getElem?_take] at hu
      split at hu
      · simpa using hu
      · cases hu
theorem core_told {S:SE.St} {n a b c:Int} {ws:List SV} (ht:TlOk S n ws a b c) (hn:n≤50) {d:Num} (g:G (Xc pc) own0 w0 E' S w') {t:Value} (hr:R E' tlV t) (hd:NumE E' 0 d) {O:Foot} (hO:∀ i n,(∃ blk,lk S.heap i=some blk)→E' i=some (.blk n)→O n) :
    ∃ d' rs vs,NumE E' 2000000 d'∧ToldV (mostOf pc) O w' t rs∧RL E' ws vs∧(fold d rs).on=d'.on∧vs=[i64 (fold d rs).wt.1,i64 (fold d rs).wt.2.1,i64 (fold d rs).wt.2.2]∧(fold d rs).en=(a,b,c) ∧
      (∀ s,1≤s→s≤3→get3 (fold d rs).en s=1∨get3 d'.on s=0∨get3 d'.ro s=get3 d.ro s)∧(∀ s,1≤s→s≤3→get3 d'.on s=0∨get3 d'.on s=1)∧(∀ s,1≤s→s≤3→get3 d'.wt s=0∨get3 d'.wt s=1):=by
  obtain ⟨f1,ef1,bf1⟩:=g.tab _ _ _ ht.f1
  obtain ⟨f2,ef2,bf2⟩:=g.tab _ _ _ ht.f2
  obtain ⟨f3,ef3,bf3⟩:=g.tab _ _ _ ht.f3
  obtain ⟨r1,er1,br1⟩:=g.tab _ _ _ ht.r1
  obtain ⟨r2,er2,br2⟩:=g.tab _ _ _ ht.r2
  obtain ⟨r3,er3,br3⟩:=g.tab _ _ _ ht.r3
  obtain ⟨q1,eq1,bq1⟩:=g.tab _ _ _ ht.q1
  obtain ⟨q2,eq2,bq2⟩:=g.tab _ _ _ ht.q2
  obtain ⟨q3,eq3,bq3⟩:=g.tab _ _ _ ht.q3
  obtain ⟨mz,em,bm⟩:=g.tab _ _ _ ht.m
  obtain ⟨cz,ec,bc⟩:=g.tab _ _ _ ht.cl
  have hout:∀ i,(0,[A i])∈S.facts→∃ z,E' i=some (.z z)∧-mostOf pc≤z∧z≤mostOf pc:=by
    intro i hi
    obtain ⟨vs,h1,z,rfl,h2,h3⟩:=g.facts _ hi
    exact ⟨z,rA' (RL_cons.1 h1).1,h2,h3⟩
  obtain ⟨z0,ez0,bz0⟩:=hout _ ht.o0
  obtain ⟨z1,ez1,bz1⟩:=hout _ ht.o1
  obtain ⟨z2,ez2,bz2⟩:=hout _ ht.o2
  obtain ⟨z3,ez3,bz3⟩:=hout _ ht.o3
  simp only [tlV,R] at hr
  obtain ⟨cs,rfl,hl⟩:=hr
  obtain ⟨_,sb,sl,sc,svs,e31,rl31,hb31,ow31⟩:=g.sls _ _ ht.s31
  obtain ⟨_,rb,rl,rc,rvs,e32,rl32,hb32,ow32⟩:=g.sls _ _ ht.s32
  have hlt:∀ i nb,(∃ blk,lk S.heap i=some blk)→E' i=some (.blk nb)→nb<w'.heap.size:=fun i nb ⟨blk,hl⟩ he=>(g.hown hl he).1
  have h6:=(g.sls _ _ ht.s31).1
  have h7:=(g.sls _ _ ht.s32).1
  obtain ⟨us31,rest31,rfl,rd31,rp31⟩:=own_reads (X:=Xc pc) (nm:=3) (e:=252) (sz:=2) rfl hb31 (fun n h=>hlt _ n ⟨_,h6⟩ h) ow31
  obtain ⟨us32,rest32,rfl,rd32,rp32⟩:=own_reads (X:=Xc pc) (nm:=2) (e:=60) (sz:=6) rfl hb32 (fun n h=>hlt _ n ⟨_,h7⟩ h) ow32
  have hsl:(sl:Int)≤n:=by
    have:=(RL_cons.1 rl31).1
    simp only [U,R,SIok] at this
    obtain ⟨y,hy,e⟩:=this
    cases e
    exact hy.2
  rw [List.cons_append,List.cons_append,List.cons_append] at rl32
  obtain ⟨hrl,rl32⟩:=RL_cons.1 rl32
  have hrl:(rl:Int)≤n:=by
    simp only [U,R,SIok] at hrl
    obtain ⟨y,hy,e⟩:=hrl
    cases e
    exact hy.2
  obtain ⟨x1,x2,x3,y1,y2,y3,rs,hsrc,rfl,rfl⟩:=rp32
  simp only [newF,List.cons_append,List.nil_append,RL_cons] at rl32
  obtain ⟨k1,k2,k3,k4,k5,k6,rl32⟩:=rl32
  have hwl:∃ p1 p2 p3,ws=[p1,p2,p3]:=by
    have:=RL_length rl32
    simp only [Fd.nums,List.length_cons,List.length_nil,List.length_append] at this
    match ws,this with
    | [p1,p2,p3],_=>exact ⟨p1,p2,p3,rfl⟩
  obtain ⟨p1,p2,p3,rfl⟩:=hwl
  simp only [Fd.nums,List.cons_append,List.nil_append,RL_cons] at rl32
  obtain ⟨m1,m2,m3,n1,n2,n3,v1,v2,v3,_⟩:=rl32
  have eo1:=hd.on.1
  have eo2:=hd.on.2.1
  have eo3:=hd.on.2.2
  have ew1:=hd.wt.1
  have ew2:=hd.wt.2.1
  have ew3:=hd.wt.2.2
  have er1':=hd.ro.1
  have er2':=hd.ro.2.1
  have er3':=hd.ro.2.2
  simp only [Nat.zero_add,Nat.reduceAdd] at eo1 eo2 eo3 ew1 ew2 ew3 er1' er2' er3'
  have u1:x1=d.on.1:=by have:=rA eo1 k1; simpa [i64] using this
  have u2:x2=d.on.2.1:=by have:=rA eo2 k2; simpa [i64] using this
  have u3:x3=d.on.2.2:=by have:=rA eo3 k3; simpa [i64] using this
  have u4:y1=d.wt.1:=by have:=rA ew1 k4; simpa [i64] using this
  have u5:y2=d.wt.2.1:=by have:=rA ew2 k5; simpa [i64] using this
  have u6:y3=d.wt.2.2:=by have:=rA ew3 k6; simpa [i64] using this
  subst u1 u2 u3 u4 u5 u6
  have hfold:List.foldl Fd.step ⟨(d.on.1,d.on.2.1,d.on.2.2),(d.wt.1,d.wt.2.1,d.wt.2.2),(0,0,0)⟩ rs=fold d rs:=rfl
  rw [hfold] at m1 m2 m3 n1 n2 n3 v1 v2 v3
  refine ⟨⟨(f1,f2,f3),(r1,r2,r3),(q1,q2,q3)⟩,rs,[i64 (fold d rs).wt.1,i64 (fold d rs).wt.2.1,i64 (fold d rs).wt.2.2],⟨⟨ef1,ef2,ef3⟩,⟨er1,er2,er3⟩,⟨eq1,eq2,eq3⟩⟩,?_,?_,?_,rfl,?_,?_,?_,?_⟩
  · have hi:∀ {i:Nat} {x:SV},nth (tlHead++[.sl 2000031,.sl 2000032]++rep 32 byteCell) i=some x→∃ v,cs[i]?=some v∧R E' x v:=fun {i x} h=>by
      obtain ⟨v,h1,h2⟩:=RL_nth hl h
      exact ⟨v,by simpa using h1,h2⟩
    obtain ⟨v0,c0,h0⟩:=hi (i:=0) (x:=A 2000214) rfl
    obtain ⟨v1,c1,h1⟩:=hi (i:=1) (x:=A 2000215) rfl
    obtain ⟨v2,c2,h2⟩:=hi (i:=2) (x:=A 2000220) rfl
    obtain ⟨v3,c3,h3⟩:=hi (i:=3) (x:=A 2000221) rfl
    obtain ⟨v4,c4,h4⟩:=hi (i:=4) (x:=A 2000222) rfl
    obtain ⟨v5,c5,h5⟩:=hi (i:=5) (x:=A 2000223) rfl
    obtain ⟨v12,c12,h12⟩:=hi (i:=12) (x:=.sl 2000031) rfl
    obtain ⟨v13,c13,h13⟩:=hi (i:=13) (x:=.sl 2000032) rfl
    rw [rA em h0] at c0
    rw [rA ec h1] at c1
    rw [rA ez0 h2] at c2
    rw [rA ez1 h3] at c3
    rw [rA ez2 h4] at c4
    rw [rA ez3 h5] at c5
    simp only [R] at h12 h13
    obtain ⟨b1,l1,p1',e1,rfl⟩:=h12
    obtain ⟨b2,l2,p2',e2,rfl⟩:=h13
    rw [e31] at e1
    cases e1
    rw [e32] at e2
    cases e2
    refine ⟨cs,sb,sl,sc,rb,rl,rc,us31,rfl,?_,allCell_one hl rfl,⟨mz,cz,z0,z1,z2,z3,c0,c1,c2,c3,c4,c5,bm,bc,bz0,bz1,bz2,bz3⟩,c12,c13,by omega,by omega,?_,rd31,rp31.2,rd32,hsrc,fun x hx=>hO _ _ ⟨_,h6⟩ (hb31 x hx),fun x hx=>hO _ _ ⟨_,h7⟩ (hb32 x hx)⟩
    · have:=RL_length hl
      rw [Array.length_toList] at this
      exact this
    · have:=rd32.1
      have hc:∀ l:List Rc,(rcCells l).length=l.length*6:=fun l=>by
        induction l with
        | nil=>rfl
        | cons r l ih=>simp only [rcCells,Rc.cells,List.length_append,List.length_cons,List.length_nil,ih]; omega
      rw [hc] at this
      omega
  · exact RL_cons.2 ⟨n1,RL_cons.2 ⟨n2,RL_cons.2 ⟨n3,by simp [RL]⟩⟩⟩
  · have a1:(fold d rs).on.1=f1:=by have:=rA ef1 m1; simpa [i64] using this
    have a2:(fold d rs).on.2.1=f2:=by have:=rA ef2 m2; simpa [i64] using this
    have a3:(fold d rs).on.2.2=f3:=by have:=rA ef3 m3; simpa [i64] using this
    show (fold d rs).on=(f1,f2,f3)
    rw [← a1,← a2,← a3]
  · have a1:=rN v1
    have a2:=rN v2
    have a3:=rN v3
    show (fold d rs).en=(a,b,c)
    rw [← a1,← a2,← a3]
  · have hrole:∀ {e:Int} {i j k:Nat} {f r r0:Int},(12,[N e,A i,A j,A k])∈S.facts→E' i=some (.z f)→E' j=some (.z r)→E' k=some (.z r0)→e=1∨f=0∨r=r0:=by
      intro e i j k f r r0 hm hi hj hk
      obtain ⟨vs,h1,e',f',r',r0',rfl,h2⟩:=g.facts _ hm
      simp only [RL_cons] at h1
      obtain ⟨h3,h4,h5,h6,_⟩:=h1
      have g3:=rN h3
      have g4:f'=f:=by have:=rA hi h4; simpa [i64] using this
      have g5:r'=r:=by have:=rA hj h5; simpa [i64] using this
      have g6:r0'=r0:=by have:=rA hk h6; simpa [i64] using this
      subst g3 g4 g5 g6
      exact h2
    have a1:=rN v1
    have a2:=rN v2
    have a3:=rN v3
    intro s h1 h2
    have h3:s=1∨s=2∨s=3:=by omega
    rcases h3 with rfl | rfl | rfl <;> simp only [get3]
    · have:=hrole ht.l1 ef1 er1 er1'
      simpa [a1] using this
    · have:=hrole ht.l2 ef2 er2 er2'
      simpa [a2] using this
    · have:=hrole ht.l3 ef3 er3 er3'
      simpa [a3] using this
  · intro s h1 h2
    have h3:s=1∨s=2∨s=3:=by omega
    rcases h3 with rfl | rfl | rfl <;> simp [get3] <;> omega
  · intro s h1 h2
    have h3:s=1∨s=2∨s=3:=by omega
    rcases h3 with rfl | rfl | rfl <;> simp [get3] <;> omega
end SE
end
section
namespace SE
open Go.RowKit Mc
variable {own0:Nat→Prop} {w0 w w':World} {E E':Env} {st st':SE.St} {pc:Array Value}
structure OutOk (late:Bool) (who:Int→Prop) (o:SV×SE.St):Prop where
  ex:∃ n ws a b c,o.1=tlV∧n≤50∧TlOk o.2 n ws a b c∧(late=false→ws=newB3) ∧
    (late=true→ws=lateB∧(7,[A 2000237,A 2000246])∈o.2.facts∧(7,[A 2000238,A 2000247])∈o.2.facts∧(7,[A 2000239,A 2000248])∈o.2.facts) ∧
    (∀ s,1≤s→s≤3→get3 (a,b,c) s≠0→who s)∧(∀ s,1≤s→s≤3→get3 (a,b,c) s=0∨get3 (a,b,c) s=1)
theorem At3.le {i:Nat} {p:Int×Int×Int} (h:At3 E i p) (hle:E.le E'):At3 E' i p:=⟨hle _ _ h.1,hle _ _ h.2.1,hle _ _ h.2.2⟩
theorem NumE.le {b:Nat} {d:Num} (h:NumE E b d) (hle:E.le E'):NumE E' b d:=⟨h.on.le hle,h.ro.le hle,h.wt.le hle⟩
theorem At3.ren {i:Nat} {p:Int×Int×Int} (h:At3 E (2000000+i) p) (h1:i+2<300) (k:lfT i=.nm (2000000+i)∧lfT (i+1)=.nm (2000000+i+1)∧lfT (i+2)=.nm (2000000+i+2)):At3 (envOf ⟨0,renT⟩ E) i p :=
  ⟨by rw [env_renT (by omega) k.1]; exact h.1,by rw [env_renT (by omega) k.2.1]; exact h.2.1,by rw [env_renT (by omega) k.2.2]; exact h.2.2⟩
theorem core_hgl:GlOk (Xc pc):=fun gg cs h=>glc_ok (pc:=pc) gg cs h
theorem core_hZ (hp:PolFit pc):FzOk (Xc pc) zT:=fun own0 w0 E st w g k svs h=>fzc hp own0 w0 E st w g k svs h
structure Like (S:SE.St):Prop where
  heap:S.heap=coreHeap
  sls:∀ id len,lk coreSls id=some (.bytes len)→lk S.sls id=some (.bytes len)
theorem core_lk_bytes {id:Nat} {len:SI} (h:lk coreSls id=some (.bytes len)):21≤id∧id≤24:=by
  simp only [coreSls,lk_cons] at h
  repeat' split at h
  all_goals first
    | omega
    | (cases h; done)
    | (simp [lk] at h)
theorem core_lk_heap {id:Nat} {blk:Blk} (h:lk coreHeap id=some blk):blk.isRo=false∧id<300:=by
  simp only [coreHeap,lk_cons] at h
  repeat' split at h
  all_goals first
    | (cases h; exact ⟨rfl,by omega⟩)
    | (simp [lk] at h)
theorem ownB_sees' {wL:World} {S:SE.St} (hS:Like S) {n:Nat} (h:ownB E S n):sees wL E n:=by
  obtain ⟨id,blk,h1,h2,h3⟩:=h
  rw [hS.heap] at h1
  exact .inr (.inl ⟨id,blk,h1,h3⟩)
theorem core_after (hp:PolFit pc) {wL:World} {Bc:Nat} {d':Num} {O:Foot} {S T:SE.St} {ren:List (Nat×Rn)} (hS:Like S) (g:G (Xc pc) (fun _=>False) wL E S w) (g1:G (Xc pc) (fun _=>False) wL E' T w') (g2:G (Xc pc) (ownB E S) w E' T w') (hle:E.le E') (hfc:fit coreSt T zT ⟨0,ren⟩=true)
    (hro:∀ id blk,lk T.heap id=some blk→blk.isRo=false) (h1:E 1=some (.blk Bc)) (hs:∀ n,sees wL E n→O n) (hlt:∀ n,O n→n<w.heap.size) (he1:envOf ⟨0,ren⟩ E' 1=E' 1) (he2:∀ id,21≤id→id≤24→envOf ⟨0,ren⟩ E' id=E' id)
    (hd:NumE (envOf ⟨0,ren⟩ E') 0 d'):KC pc wL Bc d' (grow O w w') w'∧Frm O w w':=by
  have hfr:Frm O w w':=⟨g2.size,fun n hn hno=>g2.frame n hn fun h=>hno (hs n (ownB_sees' hS h)),g2.os,g2.tape,g2.output⟩
  refine ⟨⟨⟨envOf ⟨0,ren⟩ E',fit_same g1 hfc core_hgl (core_hZ hp),hd,?_,?_⟩,?_⟩,hfr⟩
  · rw [he1]
    exact hle _ _ h1
  · intro n hn
    rcases hn with hL | ⟨id,blk,h2,h3⟩ | ⟨id,len,a,ln,cap,h2,h3,rfl⟩ | ⟨cs,hc⟩
    · exact .inl (hs n (.inl hL))
    · have hfit:=hfc
      simp only [fit,Bool.and_eq_true] at hfit
      obtain ⟨j,blk',k0,k1,k2,k3⟩:=fitH_ok hfit.1 (id:=id) (blk:=blk) h2
      have he:E' j=some (.blk n):=by
        have:envOf ⟨0,ren⟩ E' id=E' j:=by simp only [envOf,k1]
        rw [← this]; exact h3
      obtain ⟨q1,q2⟩:=g2.hown k2 he
      rcases q2 with q | q | q
      · rw [hro _ _ k2] at q; cases q
      · exact .inl (hs n (ownB_sees' hS q))
      · exact .inr ⟨q,q1⟩
    · obtain ⟨b1,b2⟩:=core_lk_bytes h2
      rw [he2 id b1 b2] at h3
      obtain ⟨base,l2,c2,e2,_⟩:=g.sls _ _ (hS.sls id len h2)
      have:=hle _ _ e2
      rw [h3] at this
      cases this
      exact .inl (hs _ (.inr (.inr (.inl ⟨id,len,a,ln,cap,h2,e2,rfl⟩))))
    · exact .inl (hs n (.inr (.inr (.inr ⟨cs,hc⟩))))
  · intro n hn
    rcases hn with h | h
    · exact Nat.lt_of_lt_of_le (hlt n h) g2.size
    · exact h.2
theorem renT_low {id:Nat} (h1:21≤id) (h2:id≤24):envOf ⟨0,renT⟩ E id=E id:=by
  have hlf:lfT id=.nm id:=by
    have:id=21∨id=22∨id=23∨id=24:=by omega
    rcases this with rfl | rfl | rfl | rfl <;> rfl
  exact env_renT (by omega) hlf
theorem renT_num {d:Num} (hd:NumE E 2000000 d):NumE (envOf ⟨0,renT⟩ E) 0 d :=
  ⟨At3.ren hd.on (by decide) ⟨rfl,rfl,rfl⟩,At3.ren hd.ro (by decide) ⟨rfl,rfl,rfl⟩,At3.ren hd.wt (by decide) ⟨rfl,rfl,rfl⟩⟩
theorem core_call (hp:PolFit pc) {wL:World} {gi:Nat} {m:Sm} {Bc:Nat} {late:Bool} {who:Int→Prop} {d:Num} {O:Foot} (hsm:SmOk (Xc pc) gi m) (houts:∀ o∈m.outs,OutOk late who o) (hS:Like m.S)
    (g:G (Xc pc) (fun _=>False) wL E m.S w) (hd:NumE E 0 d) (h1:E 1=some (.blk Bc)) (hs:∀ n,sees wL E n→O n) (hlt:∀ n,O n→n<w.heap.size) {vals:Array Value} (hr:RL E m.args vals.toList) :
    Calls Tryz.prog gi vals w (Mc.Comes (KC pc wL Bc) (mostOf pc) (Rel late who) d O w):=by
  refine (hsm.use g hr).mono fun e w' he=>?_
  obtain ⟨o,ho,E',x,hle,rfl,hrx,g1,g2⟩:=he
  obtain ⟨n,ws,a,b,c,e1,hn,ht,hex,hla,hwho,h01⟩:=(houts o ho).ex
  rw [e1] at hrx
  obtain ⟨d',rs,vs,hd',hT,hws,hon,hvs,hen,hrole,hon01,hwt01⟩:=core_told ht hn g1 hrx (hd.le hle) (O:=grow O w w') (fun i n ⟨blk,hl⟩ he=>by
    obtain ⟨q1,q2⟩:=g2.hown hl he
    rcases q2 with q | q | q
    · rw [ht.ro _ _ hl] at q; cases q
    · exact .inl (hs n (ownB_sees' hS q))
    · exact .inr ⟨q,q1⟩)
  obtain ⟨hK,hF⟩:=core_after hp hS g g1 g2 hle ht.fc ht.ro h1 hs hlt (env_renT (by decide) (j:=1) rfl) (fun id a b=>renT_low a b) (renT_num hd')
  refine ⟨d',x,rs,rfl,hK,hF,hT,hon,?_,?_,?_,?_⟩
  · intro hl
    rw [hex hl,hvs] at hws
    simp only [newB3,RL_cons] at hws
    obtain ⟨k1,k2,k3,_⟩:=hws
    have a1:(fold d rs).wt.1=d'.wt.1:=by have:=rA hd'.wt.1 k1; simpa [i64] using this
    have a2:(fold d rs).wt.2.1=d'.wt.2.1:=by have:=rA hd'.wt.2.1 k2; simpa [i64] using this
    have a3:(fold d rs).wt.2.2=d'.wt.2.2:=by have:=rA hd'.wt.2.2 k3; simpa [i64] using this
    exact Prod.ext a1 (Prod.ext a2 a3)
  · cases late with
    | false =>
      rw [hex rfl,hvs] at hws
      simp only [newB3,RL_cons] at hws
      obtain ⟨k1,k2,k3,_⟩:=hws
      have a1:(fold d rs).wt.1=d'.wt.1:=by have:=rA hd'.wt.1 k1; simpa [i64] using this
      have a2:(fold d rs).wt.2.1=d'.wt.2.1:=by have:=rA hd'.wt.2.1 k2; simpa [i64] using this
      have a3:(fold d rs).wt.2.2=d'.wt.2.2:=by have:=rA hd'.wt.2.2 k3; simpa [i64] using this
      intro s _ _
      simp only [get3,a1,a2,a3]
      exact Int.le_refl _
    | true =>
      obtain ⟨rfl,l1,l2,l3⟩:=hla rfl
      rw [hvs] at hws
      simp only [lateB,RL_cons] at hws
      obtain ⟨k1,k2,k3,_⟩:=hws
      have hle7:∀ {i j:Nat} {x y:Int},(7,[A i,A j])∈o.2.facts→E' i=some (.z x)→R E' (A j) (i64 y)→x≤y:=by
        intro i j x y hm hi hj
        obtain ⟨us,q1,a',b',rfl,q2⟩:=g1.facts _ hm
        simp only [RL_cons] at q1
        have e1:a'=x:=by have:=rA hi q1.1; simpa [i64] using this
        have e2:b'=y:=by have:=rA (rA' hj) q1.2.1; simpa [i64] using this
        rw [← e1,← e2]
        exact q2
      have a1:=hle7 l1 hd'.wt.1 k1
      have a2:=hle7 l2 hd'.wt.2.1 k2
      have a3:=hle7 l3 hd'.wt.2.2 k3
      intro s s1 s2
      have h3:s=1∨s=2∨s=3:=by omega
      rcases h3 with rfl | rfl | rfl <;> simpa [get3] using (by assumption)
  · intro r hr hk hsr
    refine hwho _ hsr.1 hsr.2 fun h0=>?_
    exact en_zero hsr rs _ (by show get3 (fold d rs).en r.src=0; rw [hen]; exact h0) r hr hk rfl
  · intro s s1 s2
    rcases hrole s s1 s2 with h | h | h
    · rcases en_one ⟨s1,s2⟩ rs ⟨d.on,d.wt,(0,0,0)⟩ h with h | h
      · have h3:s=1∨s=2∨s=3:=by omega
        rcases h3 with rfl | rfl | rfl <;> simp [get3] at h
      · exact .inl h
    · exact .inr (.inl h)
    · exact .inr (.inr h)
end SE
end
section
namespace SE
open Go.RowKit
set_option maxHeartbeats 0
theorem hello_1:sayR joinT 69 (helloM 1)=true:=by decide +kernel
theorem prove_1:sayR joinP 70 (proveM 1)=true:=by decide +kernel
theorem reject_1:sayR joinT 67 (rejectM 1)=true:=by decide +kernel
theorem beat_1:sayR joinT 111 (beatM 1)=true:=by decide +kernel
end SE
end
section
namespace SE
open Go.RowKit
set_option maxHeartbeats 0
theorem bye_1:sayR joinT 112 (byeM 1)=true:=by decide +kernel
theorem ask_1:sayR joinT 113 (askM 1)=true:=by decide +kernel
theorem deny_1:sayR joinT 116 (denyM 1)=true:=by decide +kernel
end SE
end
end Go.Proofs.YtdgejnakakjgfaaGreatDoor
