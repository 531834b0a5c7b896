/- Policies that are made ones that may be: what Fit answers; the state ahead of New. What a state looks at; a state under another beginning; use of a summary, with what it leaves alone. The plain law of streams: the items of bytes and what is left; no program in sight. Rows of items in memory: what they hold, how they grow; over the program's table of types alone. shown; the walks of the laws FrameAll and FrameGoes. The walk of the law FrameGoes. Walks: All, Take, Rest, New. The walk of the law FrameBursts. Walks: New, Rest, Take. The walk of shown. A range over a function whose iterator may write what lay ahead of the loop: the statement. The machine: what its core's calls come to; what they leave alone. -/
import Derived.Test.YtdgejnakakjgfaaGreatDoorQ20
import Derived.Test.YtdgejnakakjgfaaGreatDoorQ12
import Derived.Test.YtdgejnakakjgfaaGreatDoorQ09
import Derived.Test.YtdgejnakakjgfaaGreatDoorQ14
import Derived.Test.YtdgejnakakjgfaaGreatDoorQ10
import Derived.KernelRfl
import Derived.WalkMore
import Derived.RangeFuncNested
set_option linter.unusedVariables false
set_option linter.unusedSimpArgs false
set_option maxRecDepth 100000
namespace Go.Proofs.YtdgejnakakjgfaaGreatDoor
section
namespace SE
open Go.RowKit
variable {X:Px} {own0:Nat→Prop} {w0 w w':World} {E:Env} {st:SE.St} {pc:Array Value}
structure PolR (w:World) (vs:List Value):Prop where
  len:vs.length=56
  int:∀ p∈newS.tab,∃ z,vs[p.1 - 100]?=some (i64 z)∧p.2.1≤z∧z≤p.2.2
  key:∀ i,i<4→∃ base ln c,vs[5+i]?=some (.slice base ln c)∧1≤ln∧ln≤64∧ln≤c∧ByteRow w base ln∧∀ x,base=some x→x.block<w.heap.size
  perm:∀ s:Nat,s<5→∃ i,i<5∧vs[i]?=some (i64 s)
theorem inRg_ok (g:G X own0 w0 E st w):∀ {l:List SV} {rs:List (Int×Int)} {vs:List Value},inRg st l rs=true→RL E l vs→vs.length=rs.length∧∀ (i:Nat) (r:Int×Int),rs[i]?=some r→∃ z,vs[i]?=some (i64 z)∧r.1≤z∧z≤r.2
  | [],[],vs,h,hr=>by
    rw [RL_nil.1 hr]
    exact ⟨rfl,fun i r h=>by simp at h⟩
  | v::l,(a,b)::m,vs,h,hr=>by
    simp only [inRg,Bool.and_eq_true] at h
    simp only [RL] at hr
    obtain ⟨x,us,rfl,hx,hl⟩:=hr
    obtain ⟨h1,h2⟩:=inRg_ok g h.2 hl
    obtain ⟨z,rfl,z1,z2⟩:=isIn_ok g h.1 hx
    refine ⟨by simp [h1],fun i r hi=>?_⟩
    cases i with
    | zero=>simp at hi; subst hi; exact ⟨z,by simp,z1,z2⟩
    | succ i=>simp at hi; simpa using h2 i r hi
  | [],_::_,vs,h,hr=>by simp [inRg] at h
  | _::_,[],vs,h,hr=>by simp [inRg] at h
theorem hasC_ok {n:Int}:∀ {l:List SV} {vs:List Value},hasC l n=true→RL E l vs→∃ i:Nat,i<l.length∧vs[i]?=some (i64 n)
  | [],vs,h,hr=>by simp [hasC] at h
  | x :: l,vs,h,hr=>by
    simp only [RL] at hr
    obtain ⟨v,us,rfl,hx,hl⟩:=hr
    unfold hasC at h
    split at h
    · cases h
    · rename_i heq
      simp only [List.cons.injEq] at heq
      obtain ⟨rfl,rfl⟩:=heq
      simp only [Bool.or_eq_true,Bool.and_eq_true,decide_eq_true_eq] at h
      rcases h with ⟨h1,h2⟩ | h
      · exact ⟨0,by simp,by rw [intc hx h1 h2]; rfl⟩
      · obtain ⟨i,i1,i2⟩:=hasC_ok h hl
        exact ⟨i+1,by simpa using i1,by simpa using i2⟩
    · rename_i heq
      simp only [List.cons.injEq] at heq
      obtain ⟨rfl,rfl⟩:=heq
      obtain ⟨i,i1,i2⟩:=hasC_ok h hl
      exact ⟨i+1,by simpa using i1,by simpa using i2⟩
theorem fitR_len:fitR.length=47:=by decide +kernel
theorem key_of (g:G X own0 w0 E st w) {x:SV} {u:Value} (h:lenR st x 1 64=true) (hr:R E x u):∃ base ln c,u=.slice base ln c∧1≤ln∧ln≤64∧ln≤c∧ByteRow w base ln∧∀ x,base=some x→x.block<w.heap.size:=by
  obtain ⟨base,ln,c,rfl,h1,h2,h3,h4,h5⟩:=lenR_ok g h hr
  exact ⟨base,ln,c,rfl,by omega,by omega,h3,h4,h5⟩
theorem fitO_ok (g:G X own0 w0 E st w) {x:SV} {v:Value} (h:fitO (x,st)=true) (hr:R E x v):∃ pc:Array Value,v=.agg pc∧PolR w pc.toList:=by
  unfold fitO at h
  split at h
  · rename_i o a b c d e k1 k2 k3 k4 l hv
    simp only at hv
    subst hv
    simp only [Bool.and_eq_true] at h
    obtain ⟨⟨⟨ha,hb,hc,hd,he⟩,c0,c1,c2,c3,c4⟩,q1,q2,q3,q4,hl⟩:=h
    simp only [R] at hr
    obtain ⟨cs,rfl,hr⟩:=hr
    refine ⟨cs,rfl,?_⟩
    obtain ⟨vs,hvs⟩:∃ vs,vs=cs.toList:=⟨_,rfl⟩
    rw [← hvs] at hr ⊢
    simp only [RL] at hr
    obtain ⟨va,_,rfl,ra,vb,_,rfl,rb,vc,_,rfl,rc,vd,_,rfl,rd,ve,_,rfl,re,u1,_,rfl,r1,u2,_,rfl,r2,u3,_,rfl,r3,u4,us,rfl,r4,rl⟩:=hr
    have h5:RL E [a,b,c,d,e] [va,vb,vc,vd,ve]:=RL_cons.2 ⟨ra,RL_cons.2 ⟨rb,RL_cons.2 ⟨rc,RL_cons.2 ⟨rd,RL_cons.2 ⟨re,by simp [RL]⟩⟩⟩⟩⟩
    obtain ⟨hlen,hin⟩:=inRg_ok g hl rl
    obtain ⟨za,rfl,a1,a2⟩:=isIn_ok g ha ra
    obtain ⟨zb,rfl,b1,b2⟩:=isIn_ok g hb rb
    obtain ⟨zc,rfl,c1',c2'⟩:=isIn_ok g hc rc
    obtain ⟨zd,rfl,d1,d2⟩:=isIn_ok g hd rd
    obtain ⟨ze,rfl,e1,e2⟩:=isIn_ok g he re
    have five:∀ {n:Int},hasC [a,b,c,d,e] n=true→∃ i:Nat,i<5∧(i64 za::i64 zb::i64 zc::i64 zd::i64 ze::u1::u2::u3::u4::us)[i]?=some (i64 n):=fun {n} hn=>by
      obtain ⟨i,i1,i2⟩:=hasC_ok hn h5
      simp only [List.length_cons,List.length_nil] at i1
      refine ⟨i,by omega,?_⟩
      rw [← i2]
      match i,i1 with
      | 0,_=>rfl
      | 1,_=>rfl
      | 2,_=>rfl
      | 3,_=>rfl
      | 4,_=>rfl
    refine ⟨by simp [hlen,fitR_len],fun p hp=>?_,fun i hi=>?_,fun s hs=>?_⟩
    · simp only [newS,List.mem_append,List.mem_cons,List.not_mem_nil,or_false] at hp
      rcases hp with (rfl | rfl | rfl | rfl | rfl) | hp
      · exact ⟨za,rfl,a1,a2⟩
      · exact ⟨zb,rfl,b1,b2⟩
      · exact ⟨zc,rfl,c1',c2'⟩
      · exact ⟨zd,rfl,d1,d2⟩
      · exact ⟨ze,rfl,e1,e2⟩
      · simp only [pol9,List.mem_map,List.mem_range] at hp
        obtain ⟨i,hi,rfl⟩:=hp
        have hg:fitR[i]?=some (fitR.getD i (0,0)):=by
          rw [List.getD_eq_getElem?_getD,List.getElem?_eq_getElem (by rw [fitR_len]; exact hi)]
          rfl
        obtain ⟨z,z1,z2,z3⟩:=hin i _ hg
        refine ⟨z,?_,z2,z3⟩
        show _[109+i - 100]?=_
        rw [show 109+i - 100=i+1+1+1+1+1+1+1+1+1 by omega]
        simpa only [List.getElem?_cons_succ] using z1
    · match i,hi with
      | 0,_=>obtain ⟨x,y,z,e,q⟩:=key_of g q1 r1; exact ⟨x,y,z,by rw [e]; rfl,q⟩
      | 1,_=>obtain ⟨x,y,z,e,q⟩:=key_of g q2 r2; exact ⟨x,y,z,by rw [e]; rfl,q⟩
      | 2,_=>obtain ⟨x,y,z,e,q⟩:=key_of g q3 r3; exact ⟨x,y,z,by rw [e]; rfl,q⟩
      | 3,_=>obtain ⟨x,y,z,e,q⟩:=key_of g q4 r4; exact ⟨x,y,z,by rw [e]; rfl,q⟩
    · match s,hs with
      | 0,_=>exact five c0
      | 1,_=>exact five c1
      | 2,_=>exact five c2
      | 3,_=>exact five c3
      | 4,_=>exact five c4
  · cases h
def polC (i:Nat):SV:=bif Nat.blt i 5||Nat.ble 9 i then A (100+i) else .sl (16+i)
theorem polCells_eq:polCells=(List.range 56).map polC:=by kernel_rfl
def rgB (i:Nat) (lo hi:Int):Bool :=
  match lk newS.tab (100+i) with
  | some (a,b)=>decide (lo≤a)&&decide (b≤hi)
  | none=>false
theorem PolR.rg {vs:List Value} (h:PolR w vs) {i:Nat} {lo hi:Int} (e:rgB i lo hi=true):∃ z,vs[i]?=some (i64 z)∧lo≤z∧z≤hi:=by
  unfold rgB at e
  split at e
  · rename_i a b hl
    simp only [Bool.and_eq_true,decide_eq_true_eq] at e
    obtain ⟨z,z1,z2,z3⟩:=h.int _ (lk_mem hl)
    refine ⟨z,?_,by simp only at z2; omega,by simp only at z3; omega⟩
    have:100+i - 100=i:=by omega
    simpa only [this] using z1
  · cases e
theorem PolR.pI (h:PolR w pc.toList) {i:Nat} {lo hi:Int} (e:rgB i lo hi=true):pc[i]?=some (i64 (pI pc i))∧lo≤Proofs.YtdgejnakakjgfaaGreatDoor.pI pc i∧Proofs.YtdgejnakakjgfaaGreatDoor.pI pc i≤hi:=by
  obtain ⟨z,z1,z2,z3⟩:=h.rg e
  have z1':pc[i]?=some (.int .i64 z):=by simpa [i64] using z1
  have:Proofs.YtdgejnakakjgfaaGreatDoor.pI pc i=z:=by simp only [Proofs.YtdgejnakakjgfaaGreatDoor.pI,z1']
  rw [this]
  exact ⟨z1',z2,z3⟩
theorem rg_all:(List.range 56).all (fun i=>!(Nat.blt i 5||Nat.ble 9 i)||rgB i (-9223372036854775808) 9223372036854775807)=true:=by decide +kernel
theorem rg_set:(List.range 30).all (fun i=>rgB (9+i) 0 31)=true:=by decide +kernel
theorem rg_most:(List.range 4).all (fun i=>rgB (50+i) 0 1000)=true:=by decide +kernel
theorem rg_rate:rgB 54 1 1000=true:=by decide +kernel
theorem allRg {n:Nat} {f:Nat→Bool} (h:(List.range n).all f=true) {i:Nat} (hi:i<n):f i=true:=List.all_eq_true.1 h i (List.mem_range.2 hi)
theorem PolR.ok (h:PolR w pc.toList):PolOk pc:=by
  refine ⟨by simpa using h.len,fun i hi hk=>?_⟩
  have:=allRg rg_all hi
  have hb:(Nat.blt i 5||Nat.ble 9 i)=true:=by
    rcases hk with hk | hk
    · have:Nat.blt i 5=true:=by simp [Nat.blt,Nat.ble_eq]; omega
      rw [this]; rfl
    · have:Nat.ble 9 i=true:=Nat.ble_eq_true_of_le hk
      rw [this]; simp
  rw [hb] at this
  exact (h.pI (by simpa using this)).1
theorem PolR.fit (h:PolR w pc.toList):PolFit pc:=by
  have set:∀ j,j<30→∃ m:Nat,m<32∧Proofs.YtdgejnakakjgfaaGreatDoor.pI pc (9+j)=m:=fun j hj=>by
    obtain ⟨_,h1,h2⟩:=h.pI (allRg rg_set hj)
    exact ⟨(Proofs.YtdgejnakakjgfaaGreatDoor.pI pc (9+j)).toNat,by omega,by omega⟩
  refine ⟨h.ok,⟨fun s hs=>set s (by omega),fun j hj=>?_,fun j hj=>?_⟩,fun c hc=>(h.pI (allRg rg_most hc)).2,(h.pI rg_rate).2,fun s hs=>?_⟩
  · have:=set (5+j) (by omega)
    rwa [show 9+(5+j)=14+j by omega] at this
  · have:=set (25+j) (by omega)
    rwa [show 9+(25+j)=34+j by omega] at this
  · obtain ⟨i,i1,i2⟩:=h.perm s hs
    refine ⟨i,i1,?_⟩
    have i2':pc[i]?=some (.int .i64 s):=by simpa [i64] using i2
    simp only [Proofs.YtdgejnakakjgfaaGreatDoor.pI,i2']
theorem RL_get:∀ {l:List SV} {vs:List Value},l.length=vs.length→(∀ (i:Nat) c v,l[i]?=some c→vs[i]?=some v→R E c v)→RL E l vs
  | [],[],_,_=>by simp [RL]
  | c::l,v::vs,hl,h=>RL_cons.2 ⟨h 0 c v rfl rfl,RL_get (by simpa using hl) fun i c v h1 h2=>h (i+1) c v (by simpa using h1) (by simpa using h2)⟩
  | [],_::_,hl,_=>by simp at hl
  | _::_,[],hl,_=>by simp at hl
theorem RL_range {n:Nat} {f:Nat→SV} {vs:List Value} (hl:vs.length=n) (h:∀ i,i<n→∃ v,vs[i]?=some v∧R E (f i) v):RL E ((List.range n).map f) vs:=by
  refine RL_get (by simp [hl]) fun i c v h1 h2=>?_
  rw [List.getElem?_map,Option.map_eq_some_iff] at h1
  obtain ⟨k,hk,rfl⟩:=h1
  obtain ⟨hi,hk⟩:=List.getElem?_eq_some_iff.1 hk
  simp at hi hk
  subst hk
  obtain ⟨u,u1,u2⟩:=h i hi
  rw [u1] at h2
  cases h2
  exact u2
def isK (i:Nat):Bool:=Nat.blt i 5||Nat.ble 9 i
theorem isK_ok {i:Nat} (h:isK i=true):i<5∨9≤i:=by
  simp only [isK,Bool.or_eq_true] at h
  rcases h with h | h
  · left; simp [Nat.blt] at h; omega
  · exact .inr (Nat.le_of_ble_eq_true h)
theorem isK_no {i:Nat} (h:isK i=false):5≤i∧i<9:=by
  simp only [isK,Bool.or_eq_false_iff] at h
  obtain ⟨h1,h2⟩:=h
  constructor
  · have:¬ i<5:=fun hh=>by
      have:Nat.blt i 5=true:=by simp [Nat.blt]; omega
      rw [this] at h1; cases h1
    omega
  · have:¬ 9≤i:=fun hh=>by
      rw [Nat.ble_eq_true_of_le hh] at h2; cases h2
    omega
def EW (pc:Array Value):Env:=fun id =>
  bif Nat.ble 300 id then none
  else bif Nat.ble 21 id&&Nat.ble id 24 then (match pc[id - 16]? with | some (.slice b l c)=>some (.sl b l c) | _=>none)
  else bif Nat.ble 100 id then some (.z (Proofs.YtdgejnakakjgfaaGreatDoor.pI pc (id - 100))) else none
theorem newS_rg:newS.tab.all (fun p=>Nat.ble 100 p.1&&Nat.ble p.1 155&&rgB (p.1 - 100) p.2.1 p.2.2)=true:=by decide +kernel
theorem EW_z {i:Nat} (h1:i<156):EW pc (100+i)=some (.z (Proofs.YtdgejnakakjgfaaGreatDoor.pI pc i)):=by
  have a:Nat.ble 300 (100+i)=false:=by
    cases h:Nat.ble 300 (100+i) with
    | false=>rfl
    | true=>have:=Nat.le_of_ble_eq_true h; omega
  have b:Nat.ble (100+i) 24=false:=by
    cases h:Nat.ble (100+i) 24 with
    | false=>rfl
    | true=>have:=Nat.le_of_ble_eq_true h; omega
  have c:Nat.ble 100 (100+i)=true:=Nat.ble_eq_true_of_le (by omega)
  have d:100+i - 100=i:=by omega
  simp only [EW,a,b,c,d,cond_false,cond_true,Bool.and_false]
theorem EW_k (h:PolR w pc.toList) {i:Nat} (hi:i<4):∃ base ln c,pc[5+i]?=some (.slice base ln c)∧EW pc (21+i)=some (.sl base ln c)∧1≤ln∧ln≤64∧ln≤c∧ByteRow w base ln∧∀ x,base=some x→x.block<w.heap.size:=by
  obtain ⟨base,ln,c,q,q1⟩:=h.key i hi
  have q':pc[5+i]?=some (.slice base ln c):=by simpa using q
  refine ⟨base,ln,c,q',?_,q1⟩
  have a:Nat.ble 300 (21+i)=false:=by
    cases h:Nat.ble 300 (21+i) with
    | false=>rfl
    | true=>have:=Nat.le_of_ble_eq_true h; omega
  have b:Nat.ble (21+i) 24=true:=Nat.ble_eq_true_of_le (by omega)
  have c':Nat.ble 21 (21+i)=true:=Nat.ble_eq_true_of_le (by omega)
  have d:21+i - 16=5+i:=by omega
  simp only [EW,a,b,c',d,cond_false,cond_true,Bool.and_true,q']
theorem EW_pol (h:PolR w pc.toList):RL (EW pc) polCells pc.toList:=by
  rw [polCells_eq]
  refine RL_range h.len fun i hi=>?_
  unfold polC
  cases hk:(Nat.blt i 5||Nat.ble 9 i) with
  | true =>
    have:=h.ok.2 i hi (isK_ok hk)
    refine ⟨_,by simpa using this,?_⟩
    simp [R,SIok,A,EW_z (show i<156 by omega)]
  | false =>
    obtain ⟨k1,k2⟩:=isK_no hk
    obtain ⟨base,ln,c,q1,q2,_⟩:=EW_k h (i:=i - 5) (by omega)
    rw [show 5+(i - 5)=i by omega] at q1
    rw [show 21+(i - 5)=16+i by omega] at q2
    refine ⟨_,by simpa using q1,?_⟩
    simp [R,q2]
theorem EW_G (hw:GlW w) (hX:X.T.gl=glT) (h:PolR w pc.toList):G X (fun _=>False) w (EW pc) newS w:=by
  refine ⟨Nat.le_refl _,rfl,rfl,rfl,fun n _ _=>rfl,fun id blk hl=>(by simp [newS,lk] at hl),fun id id' b b' n hl=>(by simp [newS,lk] at hl),fun id lo hi hl=>?_,fun id i hl=>?_,fun id hid=>?_,fun g cs hg=>?_,fun x hx=>(by cases hx)⟩
  · have hm:=List.all_eq_true.1 newS_rg _ (lk_mem hl)
    simp only [Bool.and_eq_true] at hm
    obtain ⟨⟨h1,h2⟩,h3⟩:=hm
    have h1:=Nat.le_of_ble_eq_true h1
    have h2:=Nat.le_of_ble_eq_true h2
    obtain ⟨_,z1,z2⟩:=h.pI h3
    have:=EW_z (pc:=pc) (i:=id - 100) (by omega)
    rw [show 100+(id - 100)=id by omega] at this
    exact ⟨_,this,z1,z2⟩
  · have key:∀ j,j<4→SlOk X (EW pc) newS w (21+j) (.bytes (.r 1 64)):=fun j hj=>by
      obtain ⟨base,ln,c,q1,q2,q3,q4,q5,q6,q7⟩:=EW_k h hj
      exact ⟨base,ln,c,q2,by simp only [SIok]; omega,q5,q6,fun x hx=>⟨q7 x hx,fun bid blk hb=>by simp [newS,lk] at hb⟩⟩
    have hm:=lk_mem hl
    simp only [newS,List.mem_cons,List.not_mem_nil,or_false,Prod.mk.injEq] at hm
    rcases hm with ⟨rfl,rfl⟩ | ⟨rfl,rfl⟩ | ⟨rfl,rfl⟩ | ⟨rfl,rfl⟩
    · exact key 0 (by omega)
    · exact key 1 (by omega)
    · exact key 2 (by omega)
    · exact key 3 (by omega)
  · have:Nat.ble 300 id=true:=Nat.ble_eq_true_of_le hid
    simp only [EW,this,cond_true]
  · rw [hX] at hg
    obtain ⟨h1,vs,e,fr,h2,h3⟩:=hw g cs hg
    exact ⟨h1,fun id blk hl=>(by simp [newS,lk] at hl),vs,e,fr,h2,clL_ok (glT_cl g cs hg) h3⟩
structure PolA (w:World) (ps:Array Value):Prop where
  len:ps.size=56
  int:∀ i,i<56→(i<5∨9≤i)→∃ z,ps[i]?=some (i64 z)∧-9223372036854775808≤z∧z≤9223372036854775807
  key:∀ i,i<4→∃ base ln c,ps[5+i]?=some (.slice base ln c)∧Int.ofNat ln≤9223372036854775807∧ln≤c∧ByteRow w base ln∧∀ x,base=some x→x.block<w.heap.size
def fitC (i:Nat):SV:=bif isK i then I64 else .sl (i - 4)
theorem fitA_eq:fitA=(List.range 56).map fitC:=by kernel_rfl
def EF (pc:Array Value):Env:=fun id =>
  bif Nat.ble 1 id&&Nat.ble id 4 then (match pc[id+4]? with | some (.slice b l c)=>some (.sl b l c) | _=>none) else none
theorem EF_k (h:PolA w pc) {i:Nat} (hi:i<4):∃ base ln c,pc[5+i]?=some (.slice base ln c)∧EF pc (1+i)=some (.sl base ln c)∧Int.ofNat ln≤9223372036854775807∧ln≤c∧ByteRow w base ln∧∀ x,base=some x→x.block<w.heap.size:=by
  obtain ⟨base,ln,c,q,q1⟩:=h.key i hi
  refine ⟨base,ln,c,q,?_,q1⟩
  have b:Nat.ble (1+i) 4=true:=Nat.ble_eq_true_of_le (by omega)
  have c':Nat.ble 1 (1+i)=true:=Nat.ble_eq_true_of_le (by omega)
  have d:1+i+4=5+i:=by omega
  simp only [EF,b,c',d,cond_true,Bool.and_true,q]
theorem EF_pol (h:PolA w pc):RL (EF pc) fitA pc.toList:=by
  rw [fitA_eq]
  refine RL_range (by simpa using h.len) fun i hi=>?_
  unfold fitC
  cases hk:isK i with
  | true =>
    obtain ⟨z,z1,z2,z3⟩:=h.int i hi (isK_ok hk)
    refine ⟨_,by simpa using z1,?_⟩
    simp only [cond_true,I64,R,SIok]
    exact ⟨z,⟨z2,z3⟩,rfl⟩
  | false =>
    obtain ⟨k1,k2⟩:=isK_no hk
    obtain ⟨base,ln,c,q1,q2,_⟩:=EF_k h (i:=i - 5) (by omega)
    rw [show 5+(i - 5)=i by omega] at q1
    rw [show 1+(i - 5)=i - 4 by omega] at q2
    refine ⟨_,by simpa using q1,?_⟩
    simp [R,q2]
theorem EF_G (hw:GlW w) (hX:X.T.gl=glT) (h:PolA w pc):G X (fun _=>False) w (EF pc) fitS0 w:=by
  refine ⟨Nat.le_refl _,rfl,rfl,rfl,fun n _ _=>rfl,fun id blk hl=>(by simp [fitS0,lk] at hl),fun id id' b b' n hl=>(by simp [fitS0,lk] at hl),fun id lo hi hl=>(by simp [fitS0,lk] at hl),fun id i hl=>?_,fun id hid=>?_,fun g cs hg=>?_,fun x hx=>(by cases hx)⟩
  · have key:∀ j,j<4→SlOk X (EF pc) fitS0 w (1+j) (.bytes (.r 0 anyLen)):=fun j hj=>by
      obtain ⟨base,ln,c,q1,q2,q3,q4,q5,q6⟩:=EF_k h hj
      exact ⟨base,ln,c,q2,by simp only [Int.ofNat_eq_natCast] at q3; simp only [SIok,anyLen]; omega,q4,q5,fun x hx=>⟨q6 x hx,fun bid blk hb=>by simp [fitS0,lk] at hb⟩⟩
    have hm:=lk_mem hl
    simp only [fitS0,List.mem_cons,List.not_mem_nil,or_false,Prod.mk.injEq] at hm
    rcases hm with ⟨rfl,rfl⟩ | ⟨rfl,rfl⟩ | ⟨rfl,rfl⟩ | ⟨rfl,rfl⟩
    · exact key 0 (by omega)
    · exact key 1 (by omega)
    · exact key 2 (by omega)
    · exact key 3 (by omega)
  · have hid:10≤id:=hid
    have:Nat.ble id 4=false:=by
      cases h:Nat.ble id 4 with
      | false=>rfl
      | true=>have:=Nat.le_of_ble_eq_true h; omega
    simp only [EF,this,Bool.and_false,cond_false]
  · rw [hX] at hg
    obtain ⟨h1,vs,e,fr,h2,h3⟩:=hw g cs hg
    exact ⟨h1,fun id blk hl=>(by simp [fitS0,lk] at hl),vs,e,fr,h2,clL_ok (glT_cl g cs hg) h3⟩
theorem fit_any (hw:GlW w) {ps:Array Value} (h:PolA w ps):Calls Tryz.prog 16 #[.agg ps] w fun e w'=>Below w.heap.size w w'∧GlW w'∧∃ pc:Array Value,e=.returned (.agg pc)∧PolR w' pc.toList:=by
  have e:=fit_r
  unfold fitRun at e
  cases hrun:run (Xw (kL kFit)).T 60 16 [.agg fitA] fitS0 with
  | none=>rw [hrun] at e; cases e
  | some out =>
    rw [hrun] at e
    refine (run_ok (X:=Xw (kL kFit)) tabw pkw rkw (kok (X:=Xw (kL kFit)) (ks:=kFit) (kFit_ok rfl) rfl _ w) 60 hrun (EF_G hw rfl h) (RL_cons.2 ⟨?_,by simp [RL]⟩)).mono fun e' w' he=>?_
    · simp only [R]
      exact ⟨ps,rfl,EF_pol h⟩
    · obtain ⟨o,ho,E',x,h1,rfl,h3,h4⟩:=he
      obtain ⟨pc,rfl,hp⟩:=fitO_ok h4 (allO_ok e o ho) h3
      exact ⟨below_of h4,glW_of h4 rfl,pc,rfl,hp⟩
end SE
end
section
namespace SE
variable {X:Px} {own0:Nat→Prop} {w0 w w':World} {E E':Env} {st st':SE.St}
def ownB (E:Env) (st:SE.St) (n:Nat):Prop:=∃ id blk,lk st.heap id=some blk∧blk.isRo=false∧E id=some (.blk n)
def seesB (X:Px) (E:Env) (st:SE.St) (w0:World) (n:Nat):Prop :=
  n < w0.heap.size∨(∃ id blk,lk st.heap id=some blk∧E id=some (.blk n)) ∨
    (∃ id len a ln cap,lk st.sls id=some (.bytes len)∧E id=some (.sl (some a) ln cap)∧a.block=n)∨∃ cs,X.T.gl n=some cs
theorem G.keep (g:G X own0 w0 E st w) (hsz:w.heap.size≤w'.heap.size) (hs:∀ n,n<w.heap.size→seesB X E st w0 n→w'.heap[n]?=w.heap[n]?) (ho:w'.os=w.os) (ht:w'.tape=w.tape) (hu:w'.output=w.output) :
    G X own0 w0 E st w':=by
  have hsome:∀ {n:Nat} {o:Obj},seesB X E st w0 n→w.heap[n]?=some o→w'.heap[n]?=some o:=fun hn h=>by rw [hs _ (Array.getElem?_eq_some_iff.1 h).1 hn,h]
  refine ⟨Nat.le_trans g.size hsz,ho.trans g.os,ht.trans g.tape,hu.trans g.output,?_,?_,g.inj,g.tab,?_,g.dom,?_,g.facts⟩
  · intro n hn hown
    rw [hs n (Nat.lt_of_lt_of_le hn g.size) (.inl hn)]
    exact g.frame n hn hown
  · intro id blk hl
    rcases g.heap id blk hl with ⟨h0,h1,h2⟩ | ⟨n,h1,h2,h3,h4⟩
    · exact .inl ⟨h0,h1,fun n hn=>⟨Nat.lt_of_lt_of_le (h2 n hn).1 hsz,(h2 n hn).2⟩⟩
    · refine .inr ⟨n,h1,Nat.lt_of_lt_of_le h2 hsz,h3,?_⟩
      have hb:seesB X E st w0 n:=.inr (.inl ⟨id,blk,hl,h1⟩)
      cases blk with
      | cells e cs=>obtain ⟨vs,k1,k2⟩:=h4; exact ⟨vs,hsome hb k1,k2⟩
      | row e sz sid cs=>obtain ⟨vs,len,cap,k1,k2⟩:=h4; exact ⟨vs,len,cap,hsome hb k1,k2⟩
      | map es=>obtain ⟨ms,c,k1,k2⟩:=h4; exact ⟨ms,c,hsome hb k1,k2⟩
      | opq=>trivial
      | ro e cs=>obtain ⟨vs,k1,k2⟩:=h4; exact ⟨vs,hsome hb k1,k2⟩
      | res nm xs args=>exact h4
  · intro id i hl
    have h:=g.sls id i hl
    cases i with
    | bytes len =>
      obtain ⟨base,ln,cap,h1,h2,h3,h4,h5⟩:=h
      refine ⟨base,ln,cap,h1,h2,h3,?_,fun x hx=>⟨Nat.lt_of_lt_of_le (h5 x hx).1 hsz,(h5 x hx).2⟩⟩
      cases base with
      | none=>exact h4
      | some p =>
        obtain ⟨k1,vs,e,fr,k2,k3⟩:=h4
        exact ⟨k1,vs,e,fr,hsome (.inr (.inr (.inl ⟨id,len,p,ln,cap,hl,h1,rfl⟩))) k2,k3⟩
    | row b len=>exact h
    | own b nm args =>
      obtain ⟨h0,base,ln,cap,vs,h1,h2,h3,h4⟩:=h
      refine ⟨h0,base,ln,cap,vs,h1,h2,h3,?_⟩
      cases base with
      | none=>exact h4
      | some x =>
        simp only [Option.bind_some] at h4 ⊢
        have hb:=h3 x rfl
        rw [hs _ (g.hown h0 hb).1 (.inr (.inl ⟨b,.opq,h0,hb⟩))]
        exact h4
  · intro gg cs hg
    obtain ⟨h1,h2,vs,e,fr,h3,h4⟩:=g.gl gg cs hg
    exact ⟨Nat.lt_of_lt_of_le h1 hsz,h2,vs,e,fr,hsome (.inr (.inr (.inr ⟨cs,hg⟩))) h3,h4⟩
theorem G.self (g:G X own0 w0 E st w):G X (ownB E st) w E st w:=by
  refine ⟨Nat.le_refl _,rfl,rfl,rfl,fun _ _ _=>rfl,?_,g.inj,g.tab,g.sls,g.dom,g.gl,g.facts⟩
  intro id blk hl
  rcases g.heap id blk hl with ⟨h0,h1,h2⟩ | ⟨n,h1,h2,h3,h4⟩
  · exact .inl ⟨h0,h1,fun n hn=>⟨(h2 n hn).1,.inl ⟨id,blk,hl,by rw [h0]; rfl,hn⟩⟩⟩
  · refine .inr ⟨n,h1,h2,?_,h4⟩
    cases hb:blk.isRo with
    | true=>exact .inl rfl
    | false=>exact .inr (.inl ⟨id,blk,hl,hb,h1⟩)
theorem G.back (g:G X own0 w0 E st w) (g':G X (ownB E st) w E' st' w'):G X own0 w0 E' st' w':=by
  have hown:∀ n,ownB E st n→own0 n∨w0.heap.size≤n:=fun n ⟨id,blk,h1,h2,h3⟩=>by
    rcases (g.hown h1 h3).2 with h | h
    · rw [h2] at h; cases h
    · exact h
  have hup:∀ n,ownB E st n∨w.heap.size≤n→own0 n∨w0.heap.size≤n:=fun n h=>by
    rcases h with h | h
    · exact hown n h
    · exact .inr (Nat.le_trans g.size h)
  refine ⟨Nat.le_trans g.size g'.size,g'.os.trans g.os,g'.tape.trans g.tape,g'.output.trans g.output,?_,?_,g'.inj,g'.tab,g'.sls,g'.dom,g'.gl,g'.facts⟩
  · intro n hn hno
    rw [g'.frame n (Nat.lt_of_lt_of_le hn g.size) (fun h=>by
      rcases hown n h with h | h
      · exact hno h
      · omega)]
    exact g.frame n hn hno
  · intro id blk hl
    rcases g'.heap id blk hl with ⟨h0,h1,h2⟩ | ⟨n,h1,h2,h3,h4⟩
    · exact .inl ⟨h0,h1,fun n hn=>⟨(h2 n hn).1,hup n (h2 n hn).2⟩⟩
    · refine .inr ⟨n,h1,h2,?_,h4⟩
      rcases h3 with h | h
      · exact .inl h
      · exact .inr (hup n h)
theorem SmOk.use {gi:Nat} {m:Sm} (h:SmOk X gi m) (g:G X own0 w0 E m.S w) {vals:Array Value} (hr:RL E m.args vals.toList) :
    Calls X.P gi vals w fun e w'=>∃ o∈m.outs,∃ E' x,E.le E'∧e=.returned x∧R E' o.1 x∧G X own0 w0 E' o.2 w'∧G X (ownB E m.S) w E' o.2 w':=by
  refine (h.2 _ _ E w vals g.self hr).mono fun e w' he=>?_
  obtain ⟨o,ho,E',x,h1,h2,h3,h4⟩:=he
  exact ⟨o,ho,E',x,h1,h2,h3,g.back h4,h4⟩
end SE
end
section
namespace St
open Crc Fr
abbrev It:=Nat×List UInt8
def item (f:Fr.Fd):List It:=if f.kind=2 then [(0,f.body)] else if f.kind=3 then [(f.code,[])] else []
def scan (l:List UInt8):List It×List UInt8 :=
  if h:(Fr.next l).kind=0 then ([],l) else
  (item (Fr.next l)++(scan (l.drop (Fr.next l).size)).1,(scan (l.drop (Fr.next l).size)).2)
termination_by l.length
decreasing_by all_goals (have:=goes_size l h; simp; omega)
theorem scan_wait {l:List UInt8} (h:(Fr.next l).kind=0):scan l=([],l):=by rw [scan,dif_pos h]
theorem scan_step {l:List UInt8} (h:(Fr.next l).kind≠0):scan l=(item (Fr.next l)++(scan (l.drop (Fr.next l).size)).1,(scan (l.drop (Fr.next l).size)).2):=by
  rw [scan,dif_neg h]
theorem scan_nil:scan []=([],[]):=scan_wait rfl
theorem scan_ahead (b:List UInt8):scan b=scan (b.drop (Fr.ahead b)):=by
  match b with
  | []=>rfl
  | c :: r =>
    by_cases hc:c=165
    · rw [show Fr.ahead (c::r)=0 by simp [Fr.ahead,hc],List.drop_zero]
    · have h:=next_of_head c r hc
      have hk:(Fr.next (c::r)).kind≠0:=by rw [h]; simp [Fr.skip]
      rw [scan_step hk,h]
      simp [Fr.skip,item]
theorem ahead_noise (a b:List UInt8) (h:∀ c∈a,c≠165):Fr.ahead (a++b)=a.length+Fr.ahead b:=by
  induction a with
  | nil=>simp
  | cons c r ih =>
    have hc:c≠165:=h c (by simp)
    have:=ih (fun x hx=>h x (by simp [hx]))
    simp [Fr.ahead,hc,this]; omega
theorem scan_noise (a b:List UInt8) (h:∀ c∈a,c≠165):scan (a++b)=scan b:=by
  rw [scan_ahead (a++b),ahead_noise a b h,scan_ahead b,List.drop_append,List.drop_eq_nil_of_le (by omega)]
  simp
theorem noise_of_ahead (a:List UInt8) (h:Fr.ahead a=a.length):∀ c∈a,c≠165:=by
  induction a with
  | nil=>simp
  | cons c r ih =>
    by_cases hc:c=165
    · simp [Fr.ahead,hc] at h
    · simp [Fr.ahead,hc] at h
      intro x hx
      rcases List.mem_cons.1 hx with rfl | hx
      · exact hc
      · exact ih h x hx
theorem scan_append_aux (n:Nat):∀ a b:List UInt8,a.length≤n→scan (a++b)=((scan a).1++(scan ((scan a).2++b)).1,(scan ((scan a).2++b)).2):=by
  induction n with
  | zero =>
    intro a b h
    obtain rfl:a=[]:=List.eq_nil_of_length_eq_zero (by omega)
    simp [scan_nil]
  | succ n ih =>
    intro a b h
    by_cases h0:(Fr.next a).kind=0
    · simp [scan_wait h0]
    · have hs:=goes_size a h0
      by_cases h1:(Fr.next a).kind=1
      · obtain ⟨hk,hle,hor⟩:=goes_skip a b h1
        rcases hor with he | he
        · have hk0:(Fr.next (a++b)).kind≠0:=by omega
          have hi:item (Fr.next (a++b))=[]:=by simp [item,hk]
          have hi':item (Fr.next a)=[]:=by simp [item,h1]
          rw [scan_step hk0,scan_step h0,he,List.drop_append_of_le_length hs.2,ih (a.drop _) b (by simp; omega),hi,hi']
          simp
        · have hx:=next_skip a h1
          have hn:Fr.ahead a=a.length:=by have:=hx.2.2; rw [this] at he; simpa [Fr.skip] using he
          have hno:=noise_of_ahead a hn
          have e1:scan a=([],[]):=by have:=scan_noise a [] hno; simpa [scan_nil] using this
          rw [scan_noise a b hno,e1]
          simp
      · have hm:=goes_more a b h0 h1
        have hk0:(Fr.next (a++b)).kind≠0:=by rw [hm]; exact h0
        rw [scan_step hk0,scan_step h0,hm,List.drop_append_of_le_length hs.2,ih (a.drop _) b (by simp; omega)]
        simp
theorem scan_left_aux (n:Nat):∀ l:List UInt8,l.length≤n→(Fr.next (scan l).2).kind=0∧∃ p,l=p++(scan l).2:=by
  induction n with
  | zero =>
    intro l h
    obtain rfl:l=[]:=List.eq_nil_of_length_eq_zero (by omega)
    rw [scan_nil]
    exact ⟨rfl,[],rfl⟩
  | succ n ih =>
    intro l h
    by_cases h0:(Fr.next l).kind=0
    · rw [scan_wait h0]; exact ⟨h0,[],rfl⟩
    · have hs:=goes_size l h0
      obtain ⟨h1,p,hp⟩:=ih (l.drop (Fr.next l).size) (by simp; omega)
      rw [scan_step h0]
      refine ⟨h1,l.take (Fr.next l).size++p,?_⟩
      simp only
      rw [List.append_assoc,← hp,List.take_append_drop]
theorem left_wait (l:List UInt8):(Fr.next (scan l).2).kind=0:=(scan_left_aux _ l (Nat.le_refl _)).1
theorem left_suffix (l:List UInt8):∃ p,l=p++(scan l).2:=(scan_left_aux _ l (Nat.le_refl _)).2
theorem left_le (l:List UInt8):(scan l).2.length≤l.length:=by
  obtain ⟨p,hp⟩:=left_suffix l
  have:=congrArg List.length hp
  simp at this; omega
theorem left_drop (l:List UInt8):l.drop (l.length - (scan l).2.length)=(scan l).2:=by
  obtain ⟨p,hp⟩:=left_suffix l
  generalize (scan l).2=r at *
  subst hp
  simp
theorem left_short (l:List UInt8):(scan l).2.length<37:=(goes_wait _ (left_wait l)).2
end St
end
section
open Go.RowKit Crc Fr St
def Bd (w:World) (good:Nat→Prop) (A:Option Addr) (k c:Nat) (b:List UInt8):Prop :=
  b.length=k∧k≤c∧c≤maxLen∧(0<k→∃ ad,A=some ad∧good ad.block∧ad.block<w.heap.size∧∀ j u,b[j]?=some u→w.cell? (ad.add j)=some (bv u)) ∧
    ∀ ad,A=some ad→ad.spot=none∧good ad.block∧ad.block<w.heap.size
def Its (w:World) (good:Nat→Prop):List It→List Value→Prop
  | [],[]=>True
  | (c,b)::r,u::v::vs=>u=.int .i64 (c:Int)∧(∃ A k cc,v=.slice A k cc∧Bd w good A k cc b)∧Its w good r vs
  | _,_=>False
section
variable {w w':World} {good good':Nat→Prop}
theorem Bd.keep {A:Option Addr} {k c:Nat} {b:List UInt8} (h:Bd w good A k c b) (hs:w.heap.size≤w'.heap.size) (hk:∀ p,good p→p<w.heap.size→w'.heap[p]?=w.heap[p]?) (hg:∀ p,good p→good' p):Bd w' good' A k c b:=by
  refine ⟨h.1,h.2.1,h.2.2.1,fun h0=>?_,fun ad e=>⟨(h.2.2.2.2 ad e).1,hg _ (h.2.2.2.2 ad e).2.1,Nat.lt_of_lt_of_le (h.2.2.2.2 ad e).2.2 hs⟩⟩
  obtain ⟨ad,h1,h2,h3,h4⟩:=h.2.2.2.1 h0
  refine ⟨ad,h1,hg _ h2,by omega,fun j u hu=>?_⟩
  rw [← h4 j u hu]
  exact World.cell?_of_block (by rw [block_of_add]; exact hk _ h2 h3)
theorem Its.keep (hs:w.heap.size≤w'.heap.size) (hk:∀ p,good p→p<w.heap.size→w'.heap[p]?=w.heap[p]?) (hg:∀ p,good p→good' p):∀ {its:List It} {vs:List Value},Its w good its vs→Its w' good' its vs
  | [],[],_=>trivial
  | (c,b)::r,u::v::vs,⟨h1,⟨A,k,cc,h2,h3⟩,h4⟩=>⟨h1,⟨A,k,cc,h2,h3.keep hs hk hg⟩,Its.keep hs hk hg h4⟩
  | [],_::_,h=>h.elim
  | (_,_)::_,[],h=>h.elim
  | (_,_)::_,[_],h=>h.elim
theorem Its.length:∀ {its:List It} {vs:List Value},Its w good its vs→vs.length=its.length*2
  | [],[],_=>rfl
  | (c,b)::r,u::v::vs,⟨_,_,h4⟩=>by have:=Its.length h4; simp; omega
  | [],_::_,h=>h.elim
  | (_,_)::_,[],h=>h.elim
  | (_,_)::_,[_],h=>h.elim
theorem Its.append:∀ {a b:List It} {va vb:List Value},Its w good a va→Its w good b vb→Its w good (a++b) (va++vb)
  | [],b,[],vb,_,hb=>hb
  | (c,x)::r,b,u::v::vs,vb,⟨h1,h2,h4⟩,hb=>⟨h1,h2,Its.append h4 hb⟩
  | [],_,_::_,_,h,_=>h.elim
  | (_,_)::_,_,[],_,h,_=>h.elim
  | (_,_)::_,_,[_],_,h,_=>h.elim
theorem Its.oneCell:∀ {its:List It} {vs:List Value},Its w good its vs→∀ u∈vs,u.oneCell'=true
  | [],[],_,u,hu=>by cases hu
  | (c,b)::r,u::v::vs,⟨h1,⟨A,k,cc,h2,_⟩,h4⟩,x,hx=>by
    rcases List.mem_cons.1 hx with rfl | hx
    · rw [h1]; rfl
    · rcases List.mem_cons.1 hx with rfl | hx
      · rw [h2]; rfl
      · exact Its.oneCell h4 x hx
  | [],_::_,h,_,_=>h.elim
  | (_,_)::_,[],h,_,_=>h.elim
  | (_,_)::_,[_],h,_,_=>h.elim
theorem Its.get:∀ {its:List It} {vs:List Value} {i:Nat} {c:Nat} {b:List UInt8},Its w good its vs→its[i]?=some (c,b) →
    vs[i*2]?=some (.int .i64 (c:Int))∧∃ A k cc,vs[i*2+1]?=some (.slice A k cc)∧Bd w good A k cc b
  | (c,b)::r,u::v::vs,0,_,_,⟨h1,⟨A,k,cc,h2,h3⟩,_⟩,h=>by
    simp at h
    obtain ⟨rfl,rfl⟩:=h
    exact ⟨by simp [h1],A,k,cc,by simp [h2],h3⟩
  | (c,b)::r,u::v::vs,i+1,_,_,⟨_,_,h4⟩,h=>by
    have:=Its.get h4 (i:=i) (by simpa using h)
    simpa [Nat.add_mul] using this
  | [],_,_,_,_,_,h=>by simp at h
  | (_,_)::_,[],_,_,_,h,_=>h.elim
  | (_,_)::_,[_],_,_,_,h,_=>h.elim
def g5 (w:World) (base b:Nat):Prop:=base≤b∧∃ cur m,w.heap[b]?=some (.cells cur 5 m)
theorem g5.lt {base b:Nat} (h:g5 w base b):b<w.heap.size:=by
  obtain ⟨_,cur,m,h⟩:=h
  rcases Nat.lt_or_ge b w.heap.size with h1 | h1
  · exact h1
  · rw [Array.getElem?_eq_none h1] at h; cases h
theorem g5.of_eq {base b:Nat} (h:g5 w base b) (he:w'.heap[b]?=w.heap[b]?):g5 w' base b:=⟨h.1,by obtain ⟨cur,m,h2⟩:=h.2; exact ⟨cur,m,by rw [he]; exact h2⟩⟩
theorem Bd.of_own {base base':Nat} {A:Option Addr} {k c:Nat} {b:List UInt8} (h:OwnB w base A k c b) (hb:base'≤base):Bd w (g5 w base') A k c b:=by
  have hl:=h.length
  have hbd:=h.bounds
  refine ⟨hl,hbd.1,hbd.2,fun h0=>?_,fun ad e=>?_⟩
  rotate_left
  · rcases h.2 with ⟨h4,_⟩ | ⟨g,cap,cur,hv,hg,hh,_⟩
    · injection h4 with h4 _ _
      rw [h4] at e
      cases e
    · injection hv with hv _ _
      rw [hv] at e
      cases e
      refine ⟨rfl,⟨Nat.le_trans hb hg,cur,_,hh⟩,?_⟩
      rcases Nat.lt_or_ge g w.heap.size with h1 | h1
      · exact h1
      · rw [Array.getElem?_eq_none h1] at hh; cases hh
  obtain ⟨ad,h1,h2,h3⟩:=h.reads.2 h0
  rcases h.2 with ⟨_,h4⟩ | ⟨g,cap,cur,hv,hg,hh,_⟩
  · omega
  · injection hv with hv _ _
    rw [hv] at h1
    injection h1 with h1
    subst h1
    refine ⟨⟨g,0,none⟩,hv,⟨Nat.le_trans hb hg,cur,_,hh⟩,h2,fun j u hu=>?_⟩
    exact h3 j _ (by rw [List.getElem?_map,hu]; rfl)
theorem Bd.nil_:Bd w good none 0 0 []:=⟨rfl,by omega,by simp [maxLen],fun h=>absurd h (by omega),fun _ e=>by cases e⟩
def OwnI (w:World) (base:Nat) (good:Nat→Prop) (A:Option Addr) (k c:Nat) (its:List It):Prop :=
  ∃ vs,w.ownsRow base 93 2 (.slice A k c) k vs∧Its w good its vs
theorem OwnI.nil_ (base:Nat):OwnI w base good none 0 0 []:=⟨[],World.ownsRow_nil _ _ _ _,trivial⟩
theorem OwnI.length {base:Nat} {A:Option Addr} {k c:Nat} {its:List It} (h:OwnI w base good A k c its):its.length=k:=by
  obtain ⟨vs,h1,h2⟩:=h
  have:=h1.1
  have:=h2.length
  omega
theorem OwnI.type {base:Nat} {A:Option Addr} {k c:Nat} {its:List It} (h:OwnI w base good A k c its) {g:Nat} (hg:(Value.slice A k c).ownBlock=some g):base≤g∧∃ cur m,w.heap[g]?=some (.cells cur 93 m):=by
  obtain ⟨vs,h1,_⟩:=h
  rcases h1.2 with ⟨h2,_⟩ | ⟨g',cap,cur,hv,hb,hh,_⟩
  · injection h2 with h2 _ _; subst h2; cases hg
  · injection hv with hv _ _; subst hv; injection hg with hg; subst hg; exact ⟨hb,cur,_,hh⟩
theorem OwnI.keep {base:Nat} {A:Option Addr} {k c:Nat} {its:List It} (h:OwnI w base good A k c its) (hs:w.heap.size≤w'.heap.size)
    (hr:∀ g,(Value.slice A k c).ownBlock=some g→g<w.heap.size→w'.heap[g]?=w.heap[g]?) (hk:∀ p,good p→p<w.heap.size→w'.heap[p]?=w.heap[p]?) (hg:∀ p,good p→p<w.heap.size→good' p):OwnI w' base good' A k c its:=by
  obtain ⟨vs,h1,h2⟩:=h
  refine ⟨vs,⟨h1.1,?_⟩,?_⟩
  · rcases h1.2 with h3 | ⟨g,cap,cur,hv,hb,hh,r⟩
    · exact .inl h3
    · refine .inr ⟨g,cap,cur,hv,hb,?_,r⟩
      rw [hr g (by injection hv with hv; subst hv; rfl)]
      · exact hh
      · rcases Nat.lt_or_ge g w.heap.size with h | h
        · exact h
        · rw [Array.getElem?_eq_none h] at hh; cases hh
  · clear h1 hr
    induction its generalizing vs with
    | nil=>cases vs with
      | nil=>trivial
      | cons _ _=>exact h2.elim
    | cons x r ih =>
      obtain ⟨cc,b⟩:=x
      match vs,h2 with
      | u::v::vs,⟨h3,⟨A',k',c',h4,h5⟩,h6⟩ =>
        refine ⟨h3,⟨A',k',c',h4,h5.1,h5.2.1,h5.2.2.1,fun h0=>?_,fun ad e=>⟨(h5.2.2.2.2 ad e).1,hg _ (h5.2.2.2.2 ad e).2.1 (h5.2.2.2.2 ad e).2.2,Nat.lt_of_lt_of_le (h5.2.2.2.2 ad e).2.2 hs⟩⟩,ih vs h6⟩
        obtain ⟨ad,e1,e2,e3,e4⟩:=h5.2.2.2.1 h0
        refine ⟨ad,e1,hg _ e2 e3,by omega,fun j u hu=>?_⟩
        rw [← e4 j u hu]
        exact World.cell?_of_block (by rw [block_of_add]; exact hk _ e2 e3)
end
theorem item_info:(Tryz.prog.info? 93).map (fun i=>(i.zero,i.size,i.bytes))=some (some (.agg #[.int .i64 0,.slice none 0 0]),2,32):=by kernel_rfl
theorem under47:Tryz.prog.underlying 90=some (.slice 93):=by kernel_rfl
theorem wpList_append_i {w:World} {ops:Array Oper} {rest:List Oper} {o:Oper} {a:Act} {Q:Exit→Act→World→Prop} (hgd:o.guard=none) (s x:Operand)
    (ho:o.op=.call { callee:=.builtin .append,args:=#[s,x],argTypes:=#[90,90] })
    (base:Nat) (good:Nat→Prop) (A:Option Addr) (k c:Nat) (l:List It) (hs:a.eval s=.slice A k c) (hown:OwnI w base good A k c l)
    (B:Nat) (A2:Option Addr) (m c2:Nat) (news:List It) (nvs:List Value) (hx:a.eval x=.slice A2 m c2) (hr:Reads w B 2 A2 m nvs) (hn:Its w good news nvs)
    (hgood:∀ p,good p→some p≠(Value.slice A k c).ownBlock)
    (hbd:k+m≤1000000000) (hbase:base≤w.heap.size)
    (h:∀ (A':Option Addr) (c':Nat) (w':World),OwnI w' base good A' (k+m) c' (l++news)→w.grownBy w' (Value.slice A k c).ownBlock →
      ((Value.slice A' (k+m) c').ownBlock=(Value.slice A k c).ownBlock∨(Value.slice A' (k+m) c').ownBlock=some w.heap.size) →
      wpList Tryz.prog ops Q rest (a.put o.dst (.slice A' (k+m) c')) w'):wpList Tryz.prog ops Q (o::rest) a w:=by
  obtain ⟨i0,hi0,hz0,hz1,hz2⟩:=info_parts item_info
  obtain ⟨vs,hv1,hv2⟩:=hown
  have hone:∀ u∈nvs,u.oneCell'=true:=hn.oneCell
  refine wpList_append_any w hgd s x 90 ho base 93 i0 _ 2 32 under47 hi0 hz0 hz1 hz2 rfl (by omega) _ k _ hs hv1 B A2 m c2 _ hx hr hone
    (by simp only [maxLen]; omega) (by omega) hbase ?_
  intro v' w' h1 h2 h3
  have hform:∃ A' c',v'=.slice A' (k+m) c':=by
    rcases h1.2 with ⟨rfl,h0⟩ | ⟨g,cap,cur,rfl,_⟩
    · exact ⟨none,0,by rw [h0]⟩
    · exact ⟨_,_,rfl⟩
  obtain ⟨A',c',rfl⟩:=hform
  exact h A' c' w' ⟨_,h1,(hv2.append hn).keep h2.size (fun p hp hlt=>h2.block p hlt (hgood p hp)) (fun _ hp=>hp)⟩ h2 h3
end
section
open Go.RowKit Crc Fr
theorem cell_new (w:World) (C:Array Value) (t:TypeId) (m:Nat×Nat) (i:Nat) (v:Value) (h:C[i]?=some v):(w.alloc (.cells C t m)).cell? ⟨w.heap.size,i,none⟩=some v:=by
  have:(w.alloc (.cells C t m)).heap[w.heap.size]?=some (.cells C t m):=heap_alloc_new w _
  simp only [World.cell?,this]
  simpa using h
theorem cell_alloc {w:World} {a:Addr} {v:Value} (h:w.cell? a=some v) (o:Obj):(w.alloc o).cell? a=some v :=
  (World.cell?_alloc_lt w o a (World.block_lt_of_cell? w a h)).trans h
theorem cell_below {w w':World} {B:Nat} {a:Addr} {v:Value} (hb:Below B w w') (h:w.cell? a=some v) (ha:a.block<B):w'.cell? a=some v:=(hb.cell ha).trans h
end
section
open Go.RowKit Crc Fr
theorem next_named {l:List UInt8} {fk fs fc:Nat} {fb:List UInt8} (hf:Fr.next l=⟨fk,fs,fc,fb⟩) (B:Nat) (A:Option Addr) (n c:Nat) (w:World) (hr:Reads w B 1 A n (l.map bv)) (hB:B≤w.heap.size) (hc:n≤c) (hm:c≤maxLen) :
    Calls Tryz.prog 66 #[.slice A n c] w fun e w'=>∃ A' k' c',e=.returned (.agg #[.int .i64 (fk:Int),.int .i64 (fs:Int),.int .i64 (fc:Int),.slice A' k' c'])∧OwnB w' w.heap.size A' k' c' fb∧Below w.heap.size w w':=by
  have:=next_any B A n c l w hr hB hc hm
  rw [hf] at this
  exact this
end
section
open Go.RowKit Crc Fr St
theorem slice_any (A:Option Addr) (n c lo:Nat) (w:World) (L:Int) (hL:L=lo) (h1:lo≤n) (h2:n≤c) :
    (Instr.slice 23 (.slice A n c) (some (.int .i64 L)) none none).run Tryz.prog w=.ok (.slice (if c=lo then A else A.map (·.add lo)) (n - lo) (c - lo)) w:=by
  subst hL
  rw [run_slice_l w 23 _ n c elem22 .i64 lo (by omega) (by omega),size22]
  simp only [Result.andThen,sliced,Int.toNat_natCast]
  by_cases h:c=lo
  · subst h; rcases A with _ | ad <;> simp
  · rcases A with _ | ad
    · simp [h]
    · simp [h]
theorem reads_new2 (w:World) (u v:Value) (e:TypeId) (m:Nat×Nat):Reads (w.alloc (.cells #[u,v] e m)) (w.heap.size+1) 2 (some ⟨w.heap.size,0,none⟩) 1 [u,v]:=by
  refine ⟨rfl,fun _=>⟨_,rfl,by simp,fun j x hx=>?_⟩⟩
  have hj:(Addr.add ⟨w.heap.size,0,none⟩ j)=⟨w.heap.size,j,none⟩:=by unfold Addr.add; split <;> simp_all
  rw [hj]
  exact cell_new w #[u,v] e m j x (by simpa using hx)
theorem g5.grown {w w':World} {base p:Nat} {row:Option Nat} (h:g5 w base p) (hg:w.grownBy w' row) (hne:some p≠row):g5 w' base p:=h.of_eq (hg.block p h.lt hne)
theorem g5.belw {w w':World} {base p:Nat} (h:g5 w base p) (hb:Below w.heap.size w w'):g5 w' base p:=h.of_eq (hb.block p h.lt)
theorem OwnI.g5ne {w:World} {base base':Nat} {good:Nat→Prop} {A:Option Addr} {k c:Nat} {its:List It} (h:OwnI w base good A k c its) {p:Nat} (hp:g5 w base' p):some p≠(Value.slice A k c).ownBlock:=by
  intro e
  obtain ⟨_,cur,m,h1⟩:=h.type e.symm
  obtain ⟨_,cur',m',h2⟩:=hp
  rw [h1] at h2
  simp at h2
theorem OwnI.belw {w w':World} {base base':Nat} {A:Option Addr} {k c:Nat} {its:List It} (h:OwnI w base (g5 w base') A k c its) (hb:Below w.heap.size w w'):OwnI w' base (g5 w' base') A k c its :=
  h.keep hb.size (fun g _ hlt=>hb.block g hlt) (fun p _ hlt=>hb.block p hlt) (fun p hp _=>hp.belw hb)
theorem OwnI.lt {w:World} {base:Nat} {good:Nat→Prop} {A:Option Addr} {k c:Nat} {its:List It} (h:OwnI w base good A k c its) {g:Nat} (hg:(Value.slice A k c).ownBlock=some g):base≤g∧g<w.heap.size:=by
  obtain ⟨hb,cur,m,h1⟩:=h.type hg
  refine ⟨hb,?_⟩
  rcases Nat.lt_or_ge g w.heap.size with h2 | h2
  · exact h2
  · rw [Array.getElem?_eq_none h2] at h1; cases h1
theorem wpList_append_i5 {w:World} {ops:Array Oper} {rest:List Oper} {o:Oper} {a:Act} {Q:Exit→Act→World→Prop} (hgd:o.guard=none) (s x:Operand)
    (ho:o.op=.call { callee:=.builtin .append,args:=#[s,x],argTypes:=#[90,90] })
    (base:Nat) (A:Option Addr) (k c:Nat) (l:List It) (hs:a.eval s=.slice A k c) (hown:OwnI w base (g5 w base) A k c l)
    (B:Nat) (A2:Option Addr) (m c2:Nat) (news:List It) (nvs:List Value) (hx:a.eval x=.slice A2 m c2) (hr:Reads w B 2 A2 m nvs) (hn:Its w (g5 w base) news nvs)
    (hbd:k+m≤1000000000) (hbase:base≤w.heap.size)
    (h:∀ (A':Option Addr) (c':Nat) (w':World),OwnI w' base (g5 w' base) A' (k+m) c' (l++news)→w.grownBy w' (Value.slice A k c).ownBlock →
      wpList Tryz.prog ops Q rest (a.put o.dst (.slice A' (k+m) c')) w'):wpList Tryz.prog ops Q (o::rest) a w:=by
  refine wpList_append_i hgd s x ho base (g5 w base) A k c l hs hown B A2 m c2 news nvs hx hr hn (fun p hp=>hown.g5ne hp) hbd hbase ?_
  intro A' c' w' h1 h2 _
  exact h A' c' w' (h1.keep (Nat.le_refl _) (fun _ _ _=>rfl) (fun _ _ _=>rfl) (fun p hp _=>hp.grown h2 (hown.g5ne hp))) h2
def lenV:Value→Nat
  | .slice _ n _=>n
  | _=>0
set_option maxHeartbeats 1000000 in
theorem all_any (B:Nat) (A:Option Addr) (n c:Nat) (l:List UInt8) (w:World) (hr:Reads w B 1 A n (l.map bv)) (hB:B≤w.heap.size) (hc:n≤c) (hm:c≤maxLen) (hn:n≤100000) :
    Calls Tryz.prog 48 #[.slice A n c] w fun e w'=>∃ A' k' c',e=.returned (.tuple #[.slice A' k' c',.int .i64 ((scan l).2.length:Int)])∧OwnI w' w.heap.size (g5 w' w.heap.size) A' k' c' (scan l).1∧Below w.heap.size w w':=by
  have hr1:=Lib.hid hr
  have hln:l.length=n:=by simpa using hr.1
  have HLN:=Lib.hid hln
  clear hr hln
  go_enter Tryz.func48,Tryz.ntmps48
  go_wp2
  go_step3
  go_wp2
  go_step3
  go_wp2
  go_loopw [0,4] (fun b i wr=>∃ (A1:Option Addr) (n1 c1:Nat) (lr:List UInt8) (A2:Option Addr) (k2 c2:Nat) (done:List It),b=.slice A1 n1 c1∧i=.slice A2 k2 c2∧Reads wr B 1 A1 n1 (lr.map bv)∧n1≤c1∧c1≤maxLen ∧
      OwnI wr w.heap.size (g5 wr w.heap.size) A2 k2 c2 done∧k2+n1≤n∧scan l=(done++(scan lr).1,(scan lr).2)∧Below w.heap.size w wr) (fun b _ _=>lenV b)
  case atStart=>exact ⟨A,n,c,l,none,0,0,[],rfl,rfl,hr1.out,hc,hm,OwnI.nil_ _,by omega,rfl,Below.refl _ _⟩
  case round =>
    obtain ⟨A1,n1,c1,lr,A2,k2,c2,done,rfl,rfl,hrd,hc1,hm1,hoi,hkn,hsc,hbr⟩:=hrel
    have hl1:lr.length=n1:=by simpa using hrd.1
    have hws:=hbr.size
    have HRD:=Lib.hid hrd
    have HOI:=Lib.hid hoi
    have HSC:=Lib.hid hsc
    clear hrd hoi hsc
    obtain ⟨fk,fs,fc,fb,hf⟩:∃ fk fs fc fb,Fr.next lr=⟨fk,fs,fc,fb⟩:=⟨_,_,_,_,rfl⟩
    have NF:=Lib.hid (next_named hf B A1 n1 c1 wr HRD.out (by omega) hc1 hm1)
    have HF:=Lib.hid hf
    by_cases h0:fk=0
    · subst h0
      have hw:scan lr=([],lr):=scan_wait (by rw [hf])
      have HW:=Lib.hid hw
      clear hf hw
      go_wp2_with (go_at_call 66; (with_reducible refine NF.out.mono ?_); rintro e w1 ⟨A5,k5,c5,rfl,o5,hb5⟩)
      rw [Exit.noGoto_ret]
      go_ret2
      have e1:(scan l).2=lr:=by rw [HSC.out,HW.out]
      have e2:(scan l).1=done:=by rw [HSC.out,HW.out]; simp
      refine ⟨A2,k2,c2,by rw [e1,hl1]; exact rfl,?_,(hbr.trans (hb5.mono (by omega))).alloc (by have:=hb5.size; omega) _⟩
      rw [e2]
      exact (HOI.out.belw hb5).belw ((Below.refl _ _).alloc (Nat.le_refl _) _)
    · have hsz := goes_size lr (by rw [hf]; exact h0)
      rw [hf] at hsz
      simp only at hsz
      rw [hl1] at hsz
      have hstep:scan lr=(item ⟨fk,fs,fc,fb⟩++(scan (lr.drop fs)).1,(scan (lr.drop fs)).2):=by
        have:=scan_step (l:=lr) (by rw [hf]; exact h0)
        rw [hf] at this
        exact this
      have HST:=Lib.hid hstep
      have sl:=fun w=>slice_any A1 n1 c1 fs w (fs:Int) rfl hsz.2 hc1
      have hcut:Reads wr B 1 (if c1=fs then A1 else A1.map (·.add fs)) (n1 - fs) ((lr.drop fs).map bv):=by
        have:=Reads.cut HRD.out hsz.2 hc1
        rwa [Nat.mul_one,← List.map_drop] at this
      have HCUT:=Lib.hid hcut
      clear hcut
      generalize (if c1=fs then A1 else A1.map (·.add fs))=A1' at sl HCUT
      clear hf hstep
      by_cases h2:fk=2
      · subst h2
        clear h0
        go_wp2_with (first
          | (go_at_call 66; (with_reducible refine NF.out.mono ?_); rintro e w1 ⟨A5,k5,c5,rfl,o5,hb5⟩; have hs5:=hb5.size)
          | (at_builtin
             have hb6:=(hb5.alloc (Nat.le_trans hs5 (Nat.le_refl _)) (.cells #[.int .i64 2,.int .i64 (fs:Int),.int .i64 (fc:Int),.slice A5 k5 c5] 163)).alloc (by simp; omega) (.cells #[.int .i64 0,.slice A5 k5 c5] 93)
             have oi:=HOI.out.belw hb6
             refine wpList_append_i5 rfl (.tmp 14) (.tmp 18) rfl w.heap.size A2 k2 c2 done rfl oi (w1.heap.size+2) (some ⟨w1.heap.size+1,0,none⟩) 1 1 [(0,fb)] [.int .i64 0,.slice A5 k5 c5] (by rfl) (by simpa using reads_new2 (w1.alloc (.cells #[.int .i64 2,.int .i64 (fs:Int),.int .i64 (fc:Int),.slice A5 k5 c5] 163)) (.int .i64 0) (.slice A5 k5 c5) 93 (0,0)) ⟨rfl,⟨_,_,_,rfl,Bd.of_own ((o5.alloc _).alloc _) hws⟩,trivial⟩ (by omega) (by simp; omega) ?_
             intro A6 c6 w6 o6 hg6
             have hW6:Below w.heap.size wr w6:=(hb6.mono hws).grown hg6 (by simp; omega) (fun g hg=>(oi.lt hg).1)
             have f1:w6.cell? ⟨w1.heap.size,1,none⟩=some (.int .i64 (fs:Int)):=(World.cell?_of_block (hg6.block w1.heap.size (by simp; omega) (fun e=>by have:=(HOI.out.lt e.symm).2; omega))).trans (cell_alloc (cell_new w1 _ 163 _ 1 _ rfl) _)
             clear hb6 oi hg6))
        go_roundw
        case rel=>exact ⟨_,_,_,lr.drop fs,A6,k2+1,c6,done++[(0,fb)],rfl,rfl,HCUT.out.below (hW6.mono hB),by omega,by omega,o6,by omega,by rw [HSC.out,HST.out]; simp [item],hbr.trans hW6⟩
        case measure=>simp [lenV]; omega
      · by_cases h3:fk=3
        · subst h3
          clear h0 h2
          go_wp2_with (first
            | (go_at_call 66; (with_reducible refine NF.out.mono ?_); rintro e w1 ⟨A5,k5,c5,rfl,o5,hb5⟩; have hs5:=hb5.size)
            | (at_builtin
               have hb6:=(hb5.alloc (Nat.le_trans hs5 (Nat.le_refl _)) (.cells #[.int .i64 3,.int .i64 (fs:Int),.int .i64 (fc:Int),.slice A5 k5 c5] 163)).alloc (by simp; omega) (.cells #[.int .i64 (fc:Int),.slice none 0 0] 93)
               have oi:=HOI.out.belw hb6
               refine wpList_append_i5 rfl (.tmp 22) (.tmp 26) rfl w.heap.size A2 k2 c2 done rfl oi (w1.heap.size+2) (some ⟨w1.heap.size+1,0,none⟩) 1 1 [(fc,[])] [.int .i64 (fc:Int),.slice none 0 0] (by rfl) (by simpa using reads_new2 (w1.alloc (.cells #[.int .i64 3,.int .i64 (fs:Int),.int .i64 (fc:Int),.slice A5 k5 c5] 163)) (.int .i64 (fc:Int)) (.slice none 0 0) 93 (0,0)) ⟨rfl,⟨_,_,_,rfl,Bd.nil_⟩,trivial⟩ (by omega) (by simp; omega) ?_
               intro A6 c6 w6 o6 hg6
               have hW6:Below w.heap.size wr w6:=(hb6.mono hws).grown hg6 (by simp; omega) (fun g hg=>(oi.lt hg).1)
               have f1:w6.cell? ⟨w1.heap.size,1,none⟩=some (.int .i64 (fs:Int)):=(World.cell?_of_block (hg6.block w1.heap.size (by simp; omega) (fun e=>by have:=(HOI.out.lt e.symm).2; omega))).trans (cell_alloc (cell_new w1 _ 163 _ 1 _ rfl) _)
               clear hb6 oi hg6))
          go_roundw
          case rel=>exact ⟨_,_,_,lr.drop fs,A6,k2+1,c6,done++[(fc,[])],rfl,rfl,HCUT.out.below (hW6.mono hB),by omega,by omega,o6,by omega,by rw [HSC.out,HST.out]; simp [item],hbr.trans hW6⟩
          case measure=>simp [lenV]; omega
        · have hk0:((fk:Int) == 0)=false:=by simpa using h0
          have hk2:((fk:Int) == 2)=false:=by simp; omega
          have hk3:((fk:Int) == 3)=false:=by simp; omega
          have hi:item ⟨fk,fs,fc,fb⟩=[]:=by simp [item,h2,h3]
          have HI:=Lib.hid hi
          clear hi h0 h2 h3
          go_wp2_with (go_at_call 66; (with_reducible refine NF.out.mono ?_); rintro e w1 ⟨A5,k5,c5,rfl,o5,hb5⟩; have hs5:=hb5.size)
          go_roundw
          case rel =>
            have hW6:=hb5.alloc hs5 (.cells #[.int .i64 (fk:Int),.int .i64 (fs:Int),.int .i64 (fc:Int),.slice A5 k5 c5] 163)
            exact ⟨_,_,_,lr.drop fs,A2,k2,c2,done,rfl,rfl,HCUT.out.below (hW6.mono (by omega)),by omega,by omega,HOI.out.belw hW6,by omega,by rw [HSC.out,HST.out,HI.out]; simp,hbr.trans (hW6.mono hws)⟩
          case measure=>simp [lenV]; omega
end
section
open Go.RowKit Crc Fr
theorem grownBy_setCell (w:World) (p:Addr) (u:Value):w.grownBy (w.setCell p u) (some p.block) :=
  ⟨rfl,rfl,rfl,by simp [World.setCell],fun k _ hne=>Below.heap_setCell w p u k (fun e=>hne (by rw [e]))⟩
end
section
open Go.RowKit Crc Fr St
theorem ownsRow_mono {w:World} {base base':Nat} {e:TypeId} {size n:Nat} {v:Value} {xs:List Value} (h:w.ownsRow base e size v n xs) (hb:base'≤base):w.ownsRow base' e size v n xs :=
  ⟨h.1,h.2.imp id (fun ⟨g,cap,cur,h1,h2,h3⟩=>⟨g,cap,cur,h1,Nat.le_trans hb h2,h3⟩)⟩
theorem frozen_below {w w':World} {B:Nat} {a:Addr} (hb:Below B w w') (ha:a.block<B):w'.frozen? a=w.frozen? a:=World.frozen?_of_block (hb.block a.block ha)
set_option maxHeartbeats 1000000 in
theorem take_any (B:Nat) (A:Option Addr) (n c:Nat) (x:List UInt8) (w:World) (g base k0 c0:Nat) (A0:Option Addr) (rest:List UInt8) (hr:Reads w B 1 A n (x.map bv)) (hB:B≤w.heap.size) (hn:n≤20000) (hk:k0≤20000)
    (hg:g<w.heap.size) (hcell:w.cell? ⟨g,0,none⟩=some (.slice A0 k0 c0)) (hfz:w.frozen? ⟨g,0,none⟩=false) (ho:OwnB w base A0 k0 c0 rest) :
    Calls Tryz.prog 32 #[.pointer (some ⟨g,0,none⟩),.slice A n c] w fun e w'=>∃ A' k' c' A1 k1 c1,e=.returned (.slice A' k' c')∧OwnI w' w.heap.size (g5 w' w.heap.size) A' k' c' (scan (rest++x)).1 ∧
      w'.cell? ⟨g,0,none⟩=some (.slice A1 k1 c1)∧w'.frozen? ⟨g,0,none⟩=false∧OwnB w' w.heap.size A1 k1 c1 (scan (rest++x)).2∧w.grownBy w' (some g):=by
  have hlr:rest.length=k0:=ho.length
  have hlx:x.length=n:=by simpa using hr.1
  have HR:=Lib.hid hr
  have HO:=Lib.hid ho
  have hll:=left_le (rest++x)
  have HLL:=Lib.hid hll
  have hlen:(rest++x).length=k0+n:=by simp [hlr,hlx]
  have HLEN:=Lib.hid hlen
  have hld:=left_drop (rest++x)
  rw [hlen] at hld
  have HLD:=Lib.hid hld
  clear hr ho hll hld hlen hlr hlx
  go_enter Tryz.func32,Tryz.ntmps32
  obtain ⟨L,hL⟩:∃ L,L=(scan (rest++x)).2.length:=⟨_,rfl⟩
  have hLle:L≤k0+n:=by have:=HLL.out; have:=HLEN.out; omega
  have HL:=Lib.hid hL
  clear hL
  go_wp2_with (first
    | (at_make
       refine wpList_make0_b rfl (.const (.int .i64 0)) (.tmp 15) rfl w.heap.size _ _ _ (k0+n) rfl rfl (by omega) (by omega) (Nat.le_refl _) ?_
       intro w1 o1 hg1
       have hb1:Below w.heap.size w w1:=(Below.refl _ _).grown hg1 (Nat.le_refl _) (fun k hk=>by cases hk)
       have hs1:=hb1.size
       have d1:=cell_below hb1 hcell hg
       clear hg1)
    | (at_builtin
       refine wpList_append_b rfl (.tmp 17) (.tmp 21) rfl w.heap.size _ 0 _ [] rfl o1 w.heap.size A0 k0 c0 rest rfl (HO.out.reads.below hb1) (by omega) hs1 ?_
       intro A2 k2 c2 w2 hk2 hk2' o2 hg2 _
       have hb2:Below w.heap.size w w2:=hb1.grown hg2 hs1 (fun g hg=>(o1.lt g hg).1)
       have hs2:=hb2.size
       clear hg2)
    | (at_builtin
       refine wpList_append_b rfl (.tmp 23) (.tmp 24) rfl w.heap.size A2 k2 c2 _ rfl o2 B A n c x rfl (HR.out.below (hb2.mono hB)) (by omega) hs2 ?_
       intro A3 k3 c3 w3 hk3 hk3' o3 hg3 _
       have hb3:Below w.heap.size w w3:=hb2.grown hg3 hs2 (fun g hg=>(o2.lt g hg).1)
       have hs3:=hb3.size
       obtain rfl:k3=k0+n:=(by omega)
       have o3':OwnB w3 w.heap.size A3 (k0+n) c3 (rest++x):=o3
       have bd3:=o3'.bounds
       clear hg3 o3)
    | (go_at_call 48; (with_reducible refine (all_any w3.heap.size A3 (k0+n) c3 (rest++x) w3 o3'.reads (Nat.le_refl _) bd3.1 bd3.2 (by omega)).mono ?_); rintro e w4 ⟨A4,k4,c4,rfl,o4,hb4⟩
       rw [← HL.out]
       have hs4:=hb4.size
       have hb4':Below w.heap.size w w4:=hb3.trans (hb4.mono hs3)
       have sl:=fun w=>slice_any A3 (k0+n) c3 (k0+n - L) w ((k0:Int)+n - (L:Int)) (by omega) (by omega) bd3.1
       have hcut:Reads w4 w3.heap.size 1 (if c3=k0+n - L then A3 else A3.map (·.add (k0+n - L))) (k0+n - (k0+n - L)) ((scan (rest++x)).2.map bv):=(by
         have h1:=Reads.cut (k:=k0+n - L) (o3'.reads.below hb4) (by omega) bd3.1
         rw [Nat.mul_one,← List.map_drop,HL.out,HLD.out] at h1
         rw [HL.out]
         exact h1)
       have HCUT:=Lib.hid hcut
       clear hcut
       generalize (if c3=k0+n - L then A3 else A3.map (·.add (k0+n - L)))=A3' at sl HCUT)
    | (at_builtin
       refine wpList_append_b rfl (.const (.slice none 0 0)) (.tmp 37) rfl w.heap.size none 0 0 [] rfl (OwnB.nil _ _) w3.heap.size A3' _ _ _ rfl HCUT.out (by omega) (by omega) ?_
       intro A5 k5 c5 w5 hk5 hk5' o5 hg5 _
       have hb5:Below w4.heap.size w4 w5:=(Below.refl _ _).grown hg5 (Nat.le_refl _) (fun k hk=>by cases hk)
       have hb5':Below w.heap.size w w5:=hb4'.trans (hb5.mono (by omega))
       have d5:=cell_below hb5' hcell hg
       have z5:=(frozen_below hb5' (a:=⟨g,0,none⟩) hg).trans hfz
       clear hg5))
  go_ret
  have hgs:=grownBy_setCell w5 ⟨g,0,none⟩ (.slice A5 k5 c5)
  have hs5:=hb5.size
  refine ⟨A4,k4,c4,A5,k5,c5,rfl,?_,World.cell?_setCell_same _ _ _ d5,by simpa using z5,?_,⟨hgs.os.trans hb5'.os,hgs.tape.trans hb5'.tape,hgs.output.trans hb5'.output,Nat.le_trans hb5'.size hgs.size,fun k hk hne=>(hgs.block k (by omega) hne).trans (hb5'.block k hk)⟩⟩
  · have o5':=o4.belw hb5
    obtain ⟨vs,h1,h2⟩:=o5'
    refine OwnI.keep (w:=w5) (good:=g5 w5 w3.heap.size) ⟨vs,ownsRow_mono h1 hs3,h2⟩ hgs.size (fun g' hg' hlt=>hgs.block g' hlt ?_) (fun p hp hlt=>hgs.block p hlt ?_) (fun p hp hlt=>?_)
    · have:=(OwnI.lt ⟨vs,h1,h2⟩ hg').1
      simp; omega
    · have:=hp.1; simp; omega
    · exact g5.of_eq ⟨Nat.le_trans hs3 hp.1,hp.2⟩ (hgs.block p hlt (by have:=hp.1; simp; omega))
  · exact OwnB.grown o5 hgs (fun g' hA e=>by
      subst hA
      have e:g=g':=by injection e
      have:=o5.ltg.1
      omega)
end
section
open Go.RowKit Crc Fr St
def Strm (w:World) (base g:Nat) (rest:List UInt8):Prop :=
  g<w.heap.size∧w.frozen? ⟨g,0,none⟩=false∧∃ A k c,w.cell? ⟨g,0,none⟩=some (.slice A k c)∧OwnB w base A k c rest
theorem Strm.take {w:World} {base g:Nat} {rest:List UInt8} (h:Strm w base g rest) (B:Nat) (A:Option Addr) (n c:Nat) (x:List UInt8) (hr:Reads w B 1 A n (x.map bv)) (hB:B≤w.heap.size) (hn:n≤20000) (hl:rest.length≤20000) :
    Calls Tryz.prog 32 #[.pointer (some ⟨g,0,none⟩),.slice A n c] w fun e w'=>∃ A' k' c',e=.returned (.slice A' k' c')∧OwnI w' w.heap.size (g5 w' w.heap.size) A' k' c' (scan (rest++x)).1 ∧
      Strm w' w.heap.size g (scan (rest++x)).2∧w.grownBy w' (some g):=by
  obtain ⟨h1,h2,A0,k0,c0,h3,h4⟩:=h
  refine (take_any B A n c x w g base k0 c0 A0 rest hr hB hn (by have:=h4.length; omega) h1 h3 h2 h4).mono ?_
  rintro e w' ⟨A',k',c',A1,k1,c1,he,ho,hc,hz,hb,hg⟩
  exact ⟨A',k',c',he,ho,⟨by have:=hg.size; omega,hz,A1,k1,c1,hc,hb⟩,hg⟩
end
section
namespace Rg
variable {F:Fence} {n:Nat} {P:Program}
def recOf (fn:FuncId) (tmps:Array Value) (ps:Array Tmp) (assign body:Code) (d:Nat) (st:LoopState) (pe:Option Code):Loop :=
  { state:=st,pending:=pe,fn,tmps,params:=ps,assign,body,defers:=d }
def loopW (w:World) (fn:FuncId) (tmps:Array Value) (ps:Array Tmp) (assign body:Code):World :=
  (w.alloc (.deferred (some []))).alloc (.loop (recOf fn tmps ps assign body w.heap.size .ready none))
theorem range_any {g:Operand} {ps:Array Tmp} {assign body:Code} {Q:Exit→Act→World→Prop} {a:Act} {w:World}
    (hro:F.round=none) (h1:1≤n) {gf:Nat} {lb:Array Value} (hg:a.eval g=.func (.func gf) #[] lb) (hFg:F.fn gf) (eg:∀ args w,(callFunc gf args).run P w=.ok (.enter gf args) w)
    (J:World→Prop)
    (h:∀ fn,F.fn fn→CallsIn F (n - 1) P gf (#[.func (.yield (w.heap.size+1)) #[] #[]]++lb) (loopW w fn a.tmps ps assign body)
      (fun e W=>(∃ v,e=.returned v)∧J W∧W.heap[w.heap.size+1]?=some (.loop (recOf fn a.tmps ps assign body w.heap.size .ready none))∧W.heap[w.heap.size]?=some (.deferred (some []))))
    (hdone:∀ W r,J W→W.heap[w.heap.size]?=some (.deferred (some []))→Q .normal { a with defers:={ target:=.collected w.heap.size,args:=#[] }::a.defers } (W.putObj (w.heap.size+1) r)) :
    (Code.rangeFunc g ps assign body).wpIn F n P Q a w:=by
  refine wpIn_rangeFunc fun fn hfn=>?_
  rw [hro]
  refine ⟨w.heap.size+1,[{ target:=.collected w.heap.size,args:=#[] }],loopW w fn a.tmps ps assign body,{ target:=.fn (.func gf) lb,args:=#[.func (.yield (w.heap.size+1)) #[] #[]] },
    loopW w fn a.tmps ps assign body,gf,#[.func (.yield (w.heap.size+1)) #[] #[]]++lb,loopW w fn a.tmps ps assign body,?_,?_,?_,?_,fun _=>h1,?_⟩
  · exact run_enterLoop_outer _ _ _ _ _
  · simp only [resolve,hg]
    simp [go_sem]
  · intro f' hf'
    simp [Target.leads] at hf'
    subst hf'
    exact hFg
  · simp [invoke,go_sem,eg]
  · refine (h fn hfn).mono ?_
    rintro e W ⟨⟨v,rfl⟩,hJ,hl,hd⟩
    exact ⟨none,_,by have:=run_endLoop (P:=P) hl (by simp [recOf]); exact this,hdone _ _ hJ hd⟩
end Rg
end
section
namespace Mc
open Go.RowKit Crc Fr St
open SE (Rc rcCells i64)
abbrev Foot:=Nat→Prop
structure Frm (O:Foot) (w w':World):Prop where
  size:w.heap.size≤w'.heap.size
  same:∀ n,n<w.heap.size→¬ O n→w'.heap[n]?=w.heap[n]?
  os:w'.os=w.os
  tape:w'.tape=w.tape
  output:w'.output=w.output
def grow (O:Foot) (w w':World):Foot:=fun n=>O n∨(w.heap.size≤n∧n<w'.heap.size)
structure Same (O:Foot) (w w':World):Prop where
  size:w.heap.size≤w'.heap.size
  same:∀ n,O n→w'.heap[n]?=w.heap[n]?
  os:w'.os=w.os
  tape:w'.tape=w.tape
  output:w'.output=w.output
theorem Frm.refl (O:Foot) (w:World):Frm O w w:=⟨Nat.le_refl _,fun _ _ _=>rfl,rfl,rfl,rfl⟩
theorem Frm.keeps {O A:Foot} {w w':World} (h:Frm O w w') (hlt:∀ n,A n→n<w.heap.size) (hd:∀ n,A n→¬ O n):Same A w w':=⟨h.size,fun n hn=>h.same n (hlt n hn) (hd n hn),h.os,h.tape,h.output⟩
theorem Same.mono {O O':Foot} {w w':World} (h:Same O w w') (ho:∀ n,O' n→O n):Same O' w w':=⟨h.size,fun n hn=>h.same n (ho n hn),h.os,h.tape,h.output⟩
def BRow (w:World) (base:Option Addr) (ln:Nat):Prop:=SE.ByteRow w base ln∧∀ x,base=some x→x.block<w.heap.size
structure ActOk (mo:Int) (cs:Array Value):Prop where
  ex:∃ m c o1 o2 o3 o4:Int,cs[0]?=some (i64 m)∧cs[1]?=some (i64 c)∧cs[2]?=some (i64 o1)∧cs[3]?=some (i64 o2)∧cs[4]?=some (i64 o3)∧cs[5]?=some (i64 o4) ∧
    (0≤m∧m≤4)∧(1≤c∧c≤3)∧(-mo≤o1∧o1≤mo)∧(-mo≤o2∧o2≤mo)∧(-mo≤o3∧o3≤mo)∧(-mo≤o4∧o4≤mo)
structure ToldV (mo:Int) (O:Foot) (w:World) (t:Value) (rs:List Rc):Prop where
  ex:∃ (cs:Array Value) (sb:Option Addr) (sl sc:Nat) (rb:Option Addr) (rl rc:Nat) (xs:List Value),t=.agg cs∧cs.size=46∧(∀ v∈cs.toList,v.oneCell'=true)∧ActOk mo cs∧cs[12]?=some (.slice sb sl sc)∧cs[13]?=some (.slice rb rl rc) ∧
    sl≤50∧rl≤50∧rl=rs.length∧Reads w w.heap.size 2 sb sl xs∧(∀ u∈xs,u.oneCell'=true)∧Reads w w.heap.size 6 rb rl (rcCells rs)∧(∀ r∈rs,0≤r.src∧r.src≤4)∧(∀ x,sb=some x→O x.block)∧∀ x,rb=some x→O x.block
def Comes {δ:Type} (K:δ→Foot→World→Prop) (mo:Int) (R:δ→δ→List Rc→Prop) (d:δ) (O:Foot) (w:World) (e:Ending) (w':World):Prop :=
  ∃ d' t rs,e=.returned t∧K d' (grow O w w') w'∧Frm O w w'∧ToldV mo (grow O w w') w' t rs∧R d d' rs
structure CoreI (Bc:Nat) {δ:Type} (K:δ→Foot→World→Prop) (mo:Int) (RB:Nat→δ→δ→List Rc→Prop) (RS RT:δ→δ→List Rc→Prop) (RH:Bool→δ→δ→List Rc→Prop):Prop where
  keep:∀ d O w w',K d O w→Same O w w'→K d O w'
  lt:∀ d O w n,K d O w→O n→n<w.heap.size
  now:∀ d O w,K d O w→Calls Tryz.prog 18 #[.pointer (some ⟨Bc,0,none⟩)] w fun e w'=>Comes K mo (fun d d' rs=>d=d'∧rs=[]) d O w e w'∧∃ cs:Array Value,e=.returned (.agg cs)∧cs[12]?=some (.slice none 0 0)∧cs[13]?=some (.slice none 0 0)
  item:∀ d O w (l:Nat) (code:Int) base ln cap,K d O w→1≤l→l≤3→0≤code→code≤100→ln≤32→ln≤cap→BRow w base ln→(∀ x,base=some x→¬ O x.block) →
    Calls Tryz.prog 33 #[.pointer (some ⟨Bc,0,none⟩),i64 l,.agg #[i64 code,.slice base ln cap]] w (Comes K mo (RB l) d O w)
  sample:∀ d O w (v g:Bool) (x1 x2 x3 x4:Int),K d O w→(∀ x∈[x1,x2,x3,x4],-9223372036854775808≤x∧x≤9223372036854775807)→Calls Tryz.prog 34 #[.pointer (some ⟨Bc,0,none⟩),.agg #[.bool v,i64 x1,i64 x2,i64 x3,i64 x4,.bool g]] w (Comes K mo RS d O w)
  health:∀ d O w (b:Bool),K d O w→Calls Tryz.prog 35 #[.pointer (some ⟨Bc,0,none⟩),.bool b] w (Comes K mo (RH b) d O w)
  tick:∀ d O w,K d O w→Calls Tryz.prog 36 #[.pointer (some ⟨Bc,0,none⟩)] w (Comes K mo RT d O w)
structure RoundI (mo:Int) (F:Fence) (n L:Nat) (J:Nat→List Rc→Foot→World→Prop):Prop where
  keep:∀ m rs A w w',J m rs A w→Same A w w'→J m rs A w'
  lt:∀ m rs A w n,J m rs A w→A n→n<w.heap.size
  round:∀ m rs A O w t rs',J m rs A w→m≤1000→rs.length≤100000→ToldV mo O w t rs'→(∀ n,A n→¬ O n)→YieldAt F (n - 1) Tryz.prog L #[t] w fun e w'=>e=.returned (.bool true)∧J (m+1) (rs++rs') (grow A w w') w'∧Frm A w w'
theorem Same.cell {O:Foot} {w w':World} (h:Same O w w') {a:Addr} (ha:O a.block):w'.cell? a=w.cell? a:=World.cell?_of_block (h.same a.block ha)
theorem Same.frozen {O:Foot} {w w':World} (h:Same O w w') {a:Addr} (ha:O a.block):w'.frozen? a=w.frozen? a:=World.frozen?_of_block (h.same a.block ha)
theorem Frm.cell {O:Foot} {w w':World} (h:Frm O w w') {a:Addr} (hlt:a.block<w.heap.size) (ha:¬ O a.block):w'.cell? a=w.cell? a:=World.cell?_of_block (h.same a.block hlt ha)
theorem Frm.frozen {O:Foot} {w w':World} (h:Frm O w w') {a:Addr} (hlt:a.block<w.heap.size) (ha:¬ O a.block):w'.frozen? a=w.frozen? a:=World.frozen?_of_block (h.same a.block hlt ha)
end Mc
end
end Go.Proofs.YtdgejnakakjgfaaGreatDoor
