/- The symbolic executor: a state met by another one under a renaming; outcomes joined; calls taken case by case. The symbolic executor: whole code, calls. -/
import Derived.Test.YtdgejnakakjgfaaGreatDoorR04
import Derived.LoopN
import Derived.Orders
set_option linter.unusedVariables false
set_option linter.unusedSimpArgs false
set_option maxRecDepth 100000
namespace Go.Proofs.YtdgejnakakjgfaaGreatDoor
section
namespace SE
def envOf (ren:Ren) (E:Env):Env:=fun id=>match rnf ren id with
 | some (.z k)=>some (.z k)
 | some (.nm j)=>E j
 | none=>none
variable {X:Px} {own0:Nat→Prop} {w0 w:World} {E:Env} {st:St}
theorem cmpB_eq (c:Cmp) (x y:Int):cmpB c x y=cmpZ c x y:=by
 cases c <;> simp [cmpB,cmpZ]
theorem isNm_ok {ren:Ren} {id j:Nat} (h:isNm ren id j=true) (E:Env):envOf ren E id=E j:=by
 unfold isNm at h
 unfold envOf
 cases hl:rnf ren id with
 | none=>rw [hl] at h; cases h
 | some r =>
  rw [hl] at h
  cases r with
  | z k=>cases h
  | nm j'=>rw [nbeq h]
theorem instI_ok (g:G X own0 w0 E st w) {ren:Ren} {x y:SI} {z:Int} (h:instI st ren x y=true) (hy:SIok E y z):SIok (envOf ren E) x z:=by
 cases x with
 | r lo hi =>
  simp only [instI] at h
  cases hr:rngI st y with
  | none=>simp only [hr] at h; cases h
  | some p =>
   obtain ⟨l,hh⟩:=p
   simp only [hr,Bool.and_eq_true,decide_eq_true_eq] at h
   have:=rngI_ok g hr hy
   simp only [SIok]
   omega
 | a id =>
  cases y with
  | r l hh =>
   simp only [instI] at h
   cases hl:rnf ren id with
   | none=>simp only [hl] at h; cases h
   | some r =>
    cases r with
    | nm j=>simp only [hl] at h; cases h
    | z k =>
     simp only [hl,Bool.and_eq_true,decide_eq_true_eq] at h
     simp only [SIok] at hy ⊢
     simp only [envOf,hl]
     congr 2
     omega
  | a j =>
   simp only [instI,Bool.or_eq_true] at h
   rcases h with h | h
   ·simp only [SIok] at hy ⊢
    rw [isNm_ok h]
    exact hy
   ·cases hl:rnf ren id with
    | none=>simp only [hl] at h; cases h
    | some r =>
     cases r with
     | nm j=>simp only [hl] at h; cases h
     | z k =>
      cases hr:rngI st (.a j) with
      | none=>simp only [hl,hr] at h; cases h
      | some p =>
       obtain ⟨l,hh⟩:=p
       simp only [hl,hr,Bool.and_eq_true,decide_eq_true_eq] at h
       have:=rngI_ok g hr hy
       simp only [SIok,envOf,hl]
       congr 2
       omega
theorem instC_ok (g:G X own0 w0 E st w) {ren:Ren} {x y:SV} {v:Value} (h:instC st ren x y=true) (hy:R E y v):R (envOf ren E) x v:=by
 unfold instC at h
 split at h <;> try cases h
 ·simp only [R]
 ·simp only [Bool.and_eq_true] at h
  simp only [R] at hy ⊢
  obtain ⟨z,hz,e⟩:=hy
  exact ⟨z,instI_ok g h.2 hz,by rw [eqK_iff h.1]; exact e⟩
 ·exact hy
 ·exact hy
 ·simp only [R]
  exact isB_ok h hy
 ·simp only [Bool.and_eq_true,decide_eq_true_eq] at h
  simp only [R] at hy ⊢
  obtain ⟨z,hz,e⟩:=hy
  have hcd:=Cmp.toNat_inj (nbeq h.1)
  exact ⟨z,by rw [isNm_ok h.2.2]; exact hz,by rw [hcd,h.2.1]; exact e⟩
 ·split at h
  ·rename_i k hl
   rw [cmpB_eq] at h
   simp only [R] at hy ⊢
   exact ⟨k,by simp only [envOf,hl],by rw [h]; exact hy⟩
  ·cases h
 ·split at h
  ·rename_i k hl
   rw [cmpB_eq,Bool.not_eq_true'] at h
   simp only [R] at hy ⊢
   exact ⟨k,by simp only [envOf,hl],by rw [h]; exact hy⟩
  ·cases h
 ·simp only [Bool.and_eq_true] at h
  simp only [R] at hy ⊢
  obtain ⟨n,hn,e⟩:=hy
  exact ⟨n,by rw [isNm_ok h.1]; exact hn,by rw [nbeq h.2]; exact e⟩
 ·exact hy
 ·simp only [R] at hy ⊢
  rw [isNm_ok h]
  exact hy
 ·simp only [R] at hy ⊢
  rw [isNm_ok h]
  exact hy
 ·simp only [Bool.and_eq_true] at h
  simp only [R] at hy ⊢
  rw [nbeq h.1,nbeq h.2]
  exact hy
 ·simp only [Bool.and_eq_true] at h
  simp only [R] at hy ⊢
  rw [isNm_ok h.1,nbeq h.2.1,nbeq h.2.2.1,nbeq h.2.2.2]
  exact hy
 ·exact hy
 ·simp only [R] at hy ⊢
  rw [isNm_ok h]
  exact hy
 ·exact hy
 ·exact hy
 ·simp only [R] at hy ⊢
  rw [isNm_ok h]
  exact hy
theorem instL_ok (g:G X own0 w0 E st w) {ren:Ren}:∀ (l m:List SV) {vs:List Value},instL st ren l m=true→RL E m vs→RL (envOf ren E) l vs
 | [],m,vs,h,hm=>by
  cases m with
  | nil=>simpa only [RL] using hm
  | cons a b=>simp only [instL] at h; cases h
 | x::l,m,vs,h,hm=>by
  cases m with
  | nil=>simp only [instL] at h; cases h
  | cons y m =>
   simp only [instL,Bool.and_eq_true] at h
   simp only [RL] at hm ⊢
   obtain ⟨v,vs',e,h1,h2⟩:=hm
   exact ⟨v,vs',e,instC_ok g h.1 h1,instL_ok g l m h.2 h2⟩
theorem inst2_ok (g:G X own0 w0 E st w) {ren:Ren} {x y:SV} {v:Value} (h:inst2 st ren x y=true) (hy:R E y v):R (envOf ren E) x v:=by
 unfold inst2 at h
 split at h
 ·simp only [R] at hy ⊢
  obtain ⟨cs,e,hl⟩:=hy
  exact ⟨cs,e,instL_ok g _ _ h hl⟩
 ·exact instC_ok g h hy
theorem instVs_ok (g:G X own0 w0 E st w) {ren:Ren}:∀ (l m:List SV) {vs:List Value},instVs st ren l m=true→RL E m vs→RL (envOf ren E) l vs
 | [],m,vs,h,hm=>by
  cases m with
  | nil=>simpa only [RL] using hm
  | cons a b=>simp only [instVs] at h; cases h
 | x::l,m,vs,h,hm=>by
  cases m with
  | nil=>simp only [instVs] at h; cases h
  | cons y m =>
   simp only [instVs,Bool.and_eq_true] at h
   simp only [RL] at hm ⊢
   obtain ⟨v,vs',e,h1,h2⟩:=hm
   exact ⟨v,vs',e,inst2_ok g h.1 h1,instVs_ok g l m h.2 h2⟩
theorem inst_ok (g:G X own0 w0 E st w) {ren:Ren} (x y:SV) {v:Value} (h:inst st ren x y=true) (hy:R E y v):R (envOf ren E) x v:=by
 unfold inst at h
 split at h
 ·simp only [R] at hy ⊢
  obtain ⟨cs,e,hl⟩:=hy
  exact ⟨cs,e,instL_ok g _ _ h hl⟩
 ·simp only [R] at hy ⊢
  obtain ⟨cs,e,hl⟩:=hy
  exact ⟨cs,e,instVs_ok g _ _ h hl⟩
 ·simp only [Bool.and_eq_true] at h
  simp only [R] at hy ⊢
  obtain ⟨u,e,hu⟩:=hy
  exact ⟨u,by rw [nbeq h.1]; exact e,inst2_ok g h.2 hu⟩
 ·exact instC_ok g h hy
theorem fitH_ok {b:St} {ren:Ren} {nid:Nat}:∀ {l:List (Nat×Blk)} {id:Nat} {blk:Blk},fitH b ren nid l=true→lk l id=some blk→∃ j blk',id<nid∧rnf ren id=some (.nm j)∧lk b.heap j=some blk'∧instB b ren blk blk'=true
 | [],id,blk,h,e=>by simp [lk] at e
 | (i,x)::l,id,blk,h,e=>by
  simp only [fitH,Bool.and_eq_true] at h
  rw [lk_cons] at e
  split at e
  ·rename_i hi
   subst hi
   cases e
   have hlt:=Nat.le_of_ble_eq_true h.1
   have h1:=h.2.1
   revert h1
   split
   ·rename_i j hj
    split
    ·rename_i blk' hb
     intro h1
     exact ⟨j,blk',hlt,hj,hb,h1⟩
    ·intro h1; cases h1
   ·intro h1; cases h1
  ·exact fitH_ok h.2.2 e
theorem fitT_ok {b:St} {ren:Ren}:∀ {l:List (Nat×Int×Int)} {id:Nat} {lo hi:Int},fitT b ren l=true→lk l id=some (lo,hi) →
  (∃ k,rnf ren id=some (.z k)∧lo≤k∧k≤hi)∨∃ j x y,rnf ren id=some (.nm j)∧lk b.tab j=some (x,y)∧lo≤x∧y≤hi
 | [],id,lo,hi,h,e=>by simp [lk] at e
 | (i,a,c)::l,id,lo,hi,h,e=>by
  simp only [fitT,Bool.and_eq_true] at h
  rw [lk_cons] at e
  split at e
  ·rename_i hi
   subst hi
   cases e
   have h1:=h.1
   revert h1
   split
   ·rename_i k hk
    intro h1
    simp only [Bool.and_eq_true,decide_eq_true_eq] at h1
    exact .inl ⟨k,hk,h1.1,h1.2⟩
   ·rename_i j hj
    split
    ·rename_i x y hb
     intro h1
     simp only [Bool.and_eq_true,decide_eq_true_eq] at h1
     exact .inr ⟨j,x,y,hj,hb,h1.1,h1.2⟩
    ·intro h1; cases h1
   ·intro h1; cases h1
  ·exact fitT_ok h.2 e
theorem fitS_ok {b:St} {ren:Ren} {h0:List (Nat×Blk)}:∀ {l:List (Nat×SlI)} {id:Nat} {si:SlI},fitS b ren h0 l=true→lk l id=some si →
  ∃ j s',rnf ren id=some (.nm j)∧lk b.sls j=some s'∧fitSl b ren h0 si s'=true
 | [],id,si,h,e=>by simp [lk] at e
 | (i,x)::l,id,si,h,e=>by
  simp only [fitS,Bool.and_eq_true] at h
  rw [lk_cons] at e
  split at e
  ·rename_i hi
   subst hi
   cases e
   have h1:=h.1
   revert h1
   split
   ·rename_i j hj
    split
    ·rename_i s' hb
     intro h1
     exact ⟨j,s',hj,hb,h1⟩
    ·intro h1; cases h1
   ·intro h1; cases h1
  ·exact fitS_ok h.2 e
theorem notIn_ok {ren:Ren} {j:Nat}:∀ {l:List (Nat×Blk)} {id:Nat} {blk:Blk},notIn ren j l=true→lk l id=some blk→rnf ren id≠some (.nm j)
 | [],id,blk,h,e=>by simp [lk] at e
 | (i,x)::l,id,blk,h,e=>by
  simp only [notIn,Bool.and_eq_true] at h
  rw [lk_cons] at e
  split at e
  ·rename_i hi
   subst hi
   intro hc
   have h1:=h.1
   rw [hc] at h1
   simp only [Bool.not_eq_true'] at h1
   rw [Nat.beq_refl] at h1
   cases h1
  ·exact notIn_ok h.2 e
theorem oneH_ok {ren:Ren}:∀ {l:List (Nat×Blk)} {id id':Nat} {b b':Blk} {j:Nat},oneH ren l=true→lk l id=some b→lk l id'=some b'→rnf ren id=some (.nm j)→rnf ren id'=some (.nm j)→id=id'
 | [],id,id',b,b',j,h,e,e',h1,h2=>by simp [lk] at e
 | (i,x)::l,id,id',b,b',j,h,e,e',h1,h2=>by
  simp only [oneH,Bool.and_eq_true] at h
  rw [lk_cons] at e e'
  split at e
  ·rename_i hi
   subst hi
   split at e'
   ·rename_i hi'; exact hi'.symm
   ·have h3:=h.1
    rw [h1] at h3
    exact absurd h2 (notIn_ok h3 e')
  ·split at e'
   ·rename_i hi'
    subst hi'
    have h3:=h.1
    rw [h2] at h3
    exact absurd h1 (notIn_ok h3 e)
   ·exact oneH_ok h.2 e e' h1 h2
theorem below_ok {n:Nat}:∀ {l:List (Nat×Rn)} {id:Nat},below n l=true→n≤id→lk l id=none
 | [],id,h,hn=>rfl
 | (i,x)::l,id,h,hn=>by
  simp only [below,Bool.and_eq_true] at h
  have h1:=Nat.le_of_ble_eq_true h.1
  rw [lk_cons,if_neg (by omega)]
  exact below_ok h.2 hn
theorem hasF_mem {x:Nat×List SV}:∀ {l:List (Nat×List SV)},hasF x l=true→x∈l
 | [],h=>by cases h
 | y::l,h=>by
  simp only [hasF,cond_eq_ite,Bool.and_eq_true] at h
  split at h
  ·rename_i hh
   have h1:=nbeq hh.1
   have h2:=SV.beqL_eq _ _ hh.2
   have:x=y:=by cases x; cases y; simp only at h1 h2; rw [h1,h2]
   rw [this]
   exact List.mem_cons_self
  ·exact List.mem_cons_of_mem _ (hasF_mem h)
theorem fitF_ok {b:St} {Z:Nat→List SV→St→Bool} {ren:Ren}:∀ {l:List (Nat×List SV)},fitF b Z ren l=true→∀ x∈l,∃ svs',instL b ren x.2 svs'=true∧((x.1,svs')∈b.facts∨Z x.1 svs' b=true)
 | [],h,x,hx=>by cases hx
 | (k,svs)::l,h,x,hx=>by
  simp only [fitF,Bool.and_eq_true,Bool.or_eq_true] at h
  rcases List.mem_cons.1 hx with rfl | hx
  ·refine ⟨resL ren svs,h.1.1,?_⟩
   rcases h.1.2 with h2 | h2
   ·exact .inl (hasF_mem h2)
   ·exact .inr h2
  ·exact fitF_ok h.2 x hx
def FzOk (X:Px) (Z:Nat→List SV→St→Bool):Prop:=∀ own0 w0 E st w,G X own0 w0 E st w→∀ k svs,Z k svs st=true→∃ vs,RL E svs vs∧X.UF k vs
theorem noZ_ok (X:Px):FzOk X noZ:=fun _ _ _ _ _ _ k svs h=>by cases h
def GlOk (X:Px):Prop:=∀ gg cs,X.T.gl gg=some cs→∀ E E' vs,RL E cs vs→RL E' cs vs
theorem fit_gen {S:St} (g:G X own0 w0 E st w) {Z:Nat→List SV→St→Bool} {ren:Ren} (h:fit S st Z ren=true) (hgl:GlOk X) (hZ:FzOk X Z) {own1:Nat→Prop} {w1:World}
  (size:w1.heap.size≤w.heap.size) (os:w.os=w1.os) (tape:w.tape=w1.tape) (output:w.output=w1.output) (frame:∀ n,n<w1.heap.size→¬ own1 n→w.heap[n]?=w1.heap[n]?)
  (hown:∀ id blk n,lk S.heap id=some blk→blk.isRo=false→envOf ren E id=some (.blk n)→own0 n∨w0.heap.size≤n→own1 n∨w1.heap.size≤n):G X own1 w1 (envOf ren E) S w:=by
 simp only [fit,Bool.and_eq_true] at h
 obtain ⟨hH,hT,hS,hO,hB,hL,hF⟩:=h
 have hheap:∀ id blk,lk S.heap id=some blk→∃ j blk',id<S.nid∧rnf ren id=some (.nm j)∧lk st.heap j=some blk'∧instB st ren blk blk'=true∧envOf ren E id=E j:=by
  intro id blk hl
  obtain ⟨j,blk',h0,h1,h2,h3⟩:=fitH_ok hH hl
  exact ⟨j,blk',h0,h1,h2,h3,by simp only [envOf,h1]⟩
 refine ⟨size,os,tape,output,frame,?_,?_,?_,?_,?_,?_,?_⟩
 ·intro id blk hl
  obtain ⟨j,blk',h0,h1,h2,h3,h4⟩:=hheap id blk hl
  rcases g.heap j blk' h2 with ⟨q0,q1,q2⟩ | ⟨n,q1,q2,q3,q4⟩
  ·have:blk=.opq:=by
    subst q0
    cases blk <;> simp [instB] at h3
    rfl
   exact .inl ⟨this,h0,fun n hn=>⟨(q2 n (by rw [← h4]; exact hn)).1,hown id blk n hl (by rw [this]; rfl) hn (q2 n (by rw [← h4]; exact hn)).2⟩⟩
  ·have hro:blk.isRo=true∨own1 n∨w1.heap.size≤n:=by
    cases hb:blk.isRo with
    | true=>exact .inl rfl
    | false =>
     refine .inr (hown id blk n hl hb (by rw [h4]; exact q1) ?_)
     rcases q3 with q3 | q3
     ·cases blk <;> cases blk' <;> simp [instB,Blk.isRo] at h3 hb q3
     ·exact q3
   refine .inr ⟨n,by rw [h4]; exact q1,q2,hro,?_⟩
   cases blk <;> cases blk' <;> simp only [instB,Bool.false_eq_true,Bool.and_eq_true] at h3
   ·obtain ⟨vs,k1,k2⟩:=q4
    exact ⟨vs,by rw [nbeq h3.1]; exact k1,instL_ok g _ _ h3.2 k2⟩
   ·obtain ⟨vs,len,cap,k1,k2,k3,k4,k5,k6⟩:=q4
    have hlen:=nbeq h3.2.2.2.1
    exact ⟨vs,len,cap,by rw [nbeq h3.1]; exact k1,by rw [isNm_ok h3.2.2.1]; exact k2,by rw [nbeq h3.2.1]; exact k3,by rw [hlen,nbeq h3.2.1]; exact k4,k5,by rw [hlen]; exact instL_ok g _ _ h3.2.2.2.2 k6⟩
   ·trivial
   ·obtain ⟨vs,k1,k2⟩:=q4
    exact ⟨vs,by rw [nbeq h3.1]; exact k1,instL_ok g _ _ h3.2 k2⟩
   ·obtain ⟨vs,k1,k2⟩:=q4
    exact ⟨vs,by rw [nbeq h3.1]; exact k1,instL_ok g _ _ h3.2 k2⟩
 ·intro id id' b b' n h1 h2 h3 h4
  obtain ⟨j,blk,p0,p1,p2,p3,p4⟩:=hheap id b h1
  obtain ⟨j',blk',q0,q1,q2,q3,q4⟩:=hheap id' b' h2
  rw [p4] at h3
  rw [q4] at h4
  have:=g.inj j j' blk blk' n p2 q2 h3 h4
  subst this
  exact oneH_ok hO h1 h2 p1 q1
 ·intro id lo hi hl
  rcases fitT_ok hT hl with ⟨k,h1,h2,h3⟩ | ⟨j,x,y,h1,h2,h3,h4⟩
  ·exact ⟨k,by simp only [envOf,h1],h2,h3⟩
  ·obtain ⟨z,q1,q2,q3⟩:=g.tab j x y h2
   exact ⟨z,by simp only [envOf,h1]; exact q1,by omega,by omega⟩
 ·intro id si hl
  obtain ⟨j,s',h1,h2,h3⟩:=fitS_ok hS hl
  have hs:=g.sls j s' h2
  have hE:envOf ren E id=E j:=by simp only [envOf,h1]
  cases si <;> cases s' <;> simp only [fitSl,Bool.false_eq_true,Bool.and_eq_true] at h3
  ·obtain ⟨base,ln,cap,k1,k2,k3,k4,k5⟩:=hs
   refine ⟨base,ln,cap,by rw [hE]; exact k1,instI_ok g h3 k2,k3,k4,fun x hx=>⟨(k5 x hx).1,fun bid blk hb hc=>?_⟩⟩
   obtain ⟨jb,blk',p0,p1,p2,p3,p4⟩:=hheap bid blk hb
   rw [p4] at hc
   exact (k5 x hx).2 jb blk' p2 hc
  ·obtain ⟨m,cap,k1,k2⟩:=hs
   have:=nbeq h3.2
   subst this
   exact ⟨m,cap,by rw [isNm_ok h3.1]; exact k1,by rw [hE]; exact k2⟩
  ·rename_i c n l d m k
   obtain ⟨q1,q2,q3,q4⟩:=h3
   obtain ⟨h0,base,ln,cap,vs,k1,k2,k3,k4⟩:=hs
   have:=nbeq q2
   subst this
   refine ⟨?_,base,ln,cap,vs,by rw [hE]; exact k1,instL_ok g _ _ q3 k2,fun x hx=>by rw [isNm_ok q1]; exact k3 x hx,k4⟩
   unfold isOpq at q4
   split at q4
   ·rename_i hh; exact hh
   ·cases q4
 ·intro id hid
  have hlim:=Nat.le_of_ble_eq_true hL
  have:rnf ren id=none:=by
   unfold rnf
   rw [below_ok hB hid]
   have hb:Nat.blt id ren.lim=false:=by
    cases hb:Nat.blt id ren.lim with
    | false=>rfl
    | true=>have:=Nat.le_of_ble_eq_true hb; omega
   simp only [hb,cond_false]
  simp only [envOf,this]
 ·intro gg cs hg
  obtain ⟨k1,k2,vs,e,fr,k3,k4⟩:=g.gl gg cs hg
  refine ⟨k1,fun id blk hl hc=>?_,vs,e,fr,k3,hgl gg cs hg _ _ _ k4⟩
  obtain ⟨j,blk',p0,p1,p2,p3,p4⟩:=hheap id blk hl
  rw [p4] at hc
  exact k2 j blk' p2 hc
 ·intro x hx
  obtain ⟨svs',h1,h2⟩:=fitF_ok hF x hx
  rcases h2 with h2 | h2
  ·obtain ⟨vs,k1,k2⟩:=g.facts _ h2
   exact ⟨vs,instL_ok g _ _ h1 k1,k2⟩
  ·obtain ⟨vs,k1,k2⟩:=hZ own0 w0 E st w g _ _ h2
   exact ⟨vs,instL_ok g _ _ h1 k1,k2⟩
theorem fit_ok {S:St} (g:G X own0 w0 E st w) {Z:Nat→List SV→St→Bool} {ren:Ren} (h:fit S st Z ren=true) (hgl:GlOk X) (hZ:FzOk X Z) :
  G X (fun n=>∃ id blk,lk S.heap id=some blk∧blk.isRo=false∧envOf ren E id=some (.blk n)) w (envOf ren E) S w :=
 fit_gen g h hgl hZ (Nat.le_refl _) rfl rfl rfl (fun n _ _=>rfl) fun id blk n h1 hr h2 _=>.inl ⟨id,blk,h1,hr,h2⟩
theorem fit_same {S:St} (g:G X own0 w0 E st w) {Z:Nat→List SV→St→Bool} {ren:Ren} (h:fit S st Z ren=true) (hgl:GlOk X) (hZ:FzOk X Z):G X own0 w0 (envOf ren E) S w :=
 fit_gen g h hgl hZ g.size g.os g.tape g.output g.frame fun id blk n h1 hr h2 h3=>h3
theorem above_ok {n:Nat}:∀ {l:List (Nat×Rn)} {id:Nat},above n l=true→id<n→lk l id=none
 | [],id,h,hn=>rfl
 | (i,x)::l,id,h,hn=>by
  simp only [above,Bool.and_eq_true] at h
  have h1:=Nat.le_of_ble_eq_true h.1
  rw [lk_cons,if_neg (by omega)]
  exact above_ok h.2 hn
theorem caseO_ok (hgl:GlOk X) {v:SV} {S:St} {o:SV×St} {r:Ren} (h:caseO v S o r=true) {x:Value} (hx:R E o.1 x) (g:G X own0 w0 E o.2 w):E.le (envOf r E)∧R (envOf r E) v x∧G X own0 w0 (envOf r E) S w:=by
 simp only [caseO,Bool.and_eq_true] at h
 obtain ⟨h1,h2,h3,h4⟩:=h
 refine ⟨fun id y hy=>?_,inst_ok g _ _ h1 hx,fit_same g h2 hgl (noZ_ok X)⟩
 have hlt:id<r.lim:=by
  have h3:=Nat.le_of_ble_eq_true h3
  apply Nat.lt_of_not_le
  intro hn
  rw [g.dom id (by omega)] at hy
  cases hy
 have:rnf r id=some (.nm id):=by
  unfold rnf
  rw [above_ok h4 hlt]
  have:Nat.blt id r.lim=true:=Nat.ble_eq_true_of_le hlt
  simp only [this,cond_true]
 simp only [envOf,this]
 exact hy
theorem addJ_ok (hgl:GlOk X) {e:Ending} {a:SV×St}:∀ {acc:Out},Outs X own0 w0 E (a::acc) e w→Outs X own0 w0 E (addJ a acc) e w
 | [],h=>h
 | b::l,h=>by
  have tail:Outs X own0 w0 E (a::b::l) e w→Outs X own0 w0 E (b::addJ a l) e w:=by
   rintro ⟨o,ho,E',x,h1,h2,h3,h4⟩
   have hr:∀ l':Out,o∈a::l'→Outs X own0 w0 E (addJ a l') e w→True:=fun _ _ _=>trivial
   rcases List.mem_cons.1 ho with rfl | ho
   ·obtain ⟨o',ho',r⟩:=addJ_ok (acc:=l) hgl ⟨o,List.mem_cons_self,E',x,h1,h2,h3,h4⟩
    exact ⟨o',List.mem_cons_of_mem _ ho',r⟩
   ·rcases List.mem_cons.1 ho with rfl | ho
    ·exact ⟨o,List.mem_cons_self,E',x,h1,h2,h3,h4⟩
    ·obtain ⟨o',ho',r⟩:=addJ_ok (acc:=l) hgl ⟨o,List.mem_cons_of_mem _ ho,E',x,h1,h2,h3,h4⟩
     exact ⟨o',List.mem_cons_of_mem _ ho',r⟩
  simp only [addJ,cond_eq_ite]
  split
  ·rename_i hm
   have key:∀ (v:SV) (S:St) (rb ra:Ren),Outs X own0 w0 E (if (caseO v S b rb&&caseO v S a ra)=true then (v,S)::l else b::addJ a l) e w:=by
    intro v S rb ra
    split
    ·rename_i hc
     simp only [Bool.and_eq_true] at hc
     obtain ⟨o,ho,E',x,h1,h2,h3,h4⟩:=h
     rcases List.mem_cons.1 ho with rfl | ho
     ·obtain ⟨k1,k2,k3⟩:=caseO_ok hgl hc.2 h3 h4
      exact ⟨_,List.mem_cons_self,_,x,Env.le_trans h1 k1,h2,k2,k3⟩
     ·rcases List.mem_cons.1 ho with rfl | ho
      ·obtain ⟨k1,k2,k3⟩:=caseO_ok hgl hc.1 h3 h4
       exact ⟨_,List.mem_cons_self,_,x,Env.le_trans h1 k1,h2,k2,k3⟩
      ·exact ⟨o,List.mem_cons_of_mem _ ho,E',x,h1,h2,h3,h4⟩
    ·exact tail h
   exact key _ _ _ _
  ·exact tail h
theorem joinAll_ok (hgl:GlOk X) {e:Ending}:∀ {l acc:Out},Outs X own0 w0 E (acc++l) e w→Outs X own0 w0 E (joinAll acc l) e w
 | [],acc,h=>by simpa [joinAll] using h
 | a::l,acc,h=>by
  simp only [joinAll]
  apply joinAll_ok hgl
  obtain ⟨o,ho,r⟩:=h
  rcases List.mem_append.1 ho with h1 | h1
  ·obtain ⟨o',h2,r'⟩:=addJ_ok (acc:=acc) (a:=a) hgl ⟨o,List.mem_cons_of_mem _ h1,r⟩
   exact ⟨o',List.mem_append.2 (.inl h2),r'⟩
  ·rcases List.mem_cons.1 h1 with rfl | h1
   ·obtain ⟨o',h2,r'⟩:=addJ_ok (acc:=acc) (a:=o) hgl ⟨o,List.mem_cons_self,r⟩
    exact ⟨o',List.mem_append.2 (.inl h2),r'⟩
   ·exact ⟨o,List.mem_append.2 (.inr h1),r⟩
theorem joinO_ok (hgl:GlOk X) {T:Tb} {gi:Nat} {l:Out} {e:Ending} (h:Outs X own0 w0 E l e w):Outs X own0 w0 E (joinO T gi l) e w:=by
 unfold joinO
 simp only [cond_eq_ite]
 split
 ·exact joinAll_ok hgl (by simpa using h)
 ·exact h
theorem RL_setN {E:Env}:∀ {l:List SV} {vs:List Value} {i:Nat} {x y:SV},RL E l vs→nth l i=some x→(∀ v,R E x v→R E y v)→RL E (setN l i y) vs
 | [],vs,i,x,y,h,e,hy=>by cases i <;> cases e
 | a::l,vs,0,x,y,h,e,hy=>by
  cases e
  simp only [RL,setN] at h ⊢
  obtain ⟨v,vs',e,h1,h2⟩:=h
  exact ⟨v,vs',e,hy v h1,h2⟩
 | a::l,vs,i+1,x,y,h,e,hy=>by
  simp only [RL,setN] at h ⊢
  obtain ⟨v,vs',e',h1,h2⟩:=h
  exact ⟨v,vs',e',h1,RL_setN h2 e hy⟩
theorem casesN_mem {k:IntKind} {id i:Nat} {args:List SV} {st:SE.St}:∀ (n:Nat) (lo z:Int),lo≤z→z<lo+n→(setN args i (.int k (.r z z)),{ st with tab:=upd st.tab id (z,z) })∈casesN k id i args st n lo
 | 0,lo,z,h1,h2=>by omega
 | n+1,lo,z,h1,h2=>by
  simp only [casesN,fI_eq]
  by_cases h:z=lo
  ·subst h; exact List.mem_cons_self
  ·exact List.mem_cons_of_mem _ (casesN_mem n (lo+1) z (by omega) (by omega))
theorem splitA_ok (g:G X own0 w0 E st w) {T:Tb} {gi:Nat} {args:List SV} {vs:List Value} (h:RL E args vs):∃ p∈splitA T gi args st,G X own0 w0 E p.2 w∧RL E p.1 vs:=by
 unfold splitA
 split
 ·exact ⟨_,List.mem_singleton.2 rfl,g,h⟩
 ·rename_i i _
  split
  ·rename_i k id hn
   split
   ·rename_i lo hi hl
    simp only [cond_eq_ite,Bool.and_eq_true,decide_eq_true_eq]
    split
    ·rename_i hc
     obtain ⟨z,hz,h1,h2⟩:=g.tab id lo hi hl
     refine ⟨_,casesN_mem (k:=k) (id:=id) (i:=i) (args:=args) (st:=st) _ lo z h1 (by omega),g.setTab hz (Int.le_refl _) (Int.le_refl _),RL_setN h hn fun v hv=>?_⟩
     simp only [R,SIok] at hv ⊢
     obtain ⟨z',hz',e⟩:=hv
     rw [hz] at hz'
     cases hz'
     exact ⟨z,⟨Int.le_refl _,Int.le_refl _⟩,e⟩
    ·exact ⟨_,List.mem_singleton.2 rfl,g,h⟩
   ·exact ⟨_,List.mem_singleton.2 rfl,g,h⟩
  ·exact ⟨_,List.mem_singleton.2 rfl,g,h⟩
theorem hasV_ok (g:G X own0 w0 E st w):∀ {l:List SV},hasV st l=true→∃ vs,RL E l vs
 | [],h=>⟨[],by simp [RL]⟩
 | x::l,h=>by
  cases x <;> try (simp only [hasV,Bool.false_eq_true] at h)
  rename_i k i
  cases i with
  | a id =>
   simp only [hasV,Bool.and_eq_true] at h
   obtain ⟨⟨lo,hi⟩,hl⟩:=Option.isSome_iff_exists.1 h.1
   obtain ⟨z,hz,_⟩:=g.tab id lo hi hl
   obtain ⟨vs,hv⟩:=hasV_ok g h.2
   exact ⟨.int k z::vs,RL_cons.2 ⟨by simp only [R,SIok]; exact ⟨z,hz,rfl⟩,hv⟩⟩
  | r a b =>
   simp only [hasV,Bool.and_eq_true,decide_eq_true_eq] at h
   obtain ⟨vs,hv⟩:=hasV_ok g h.2
   exact ⟨.int k a::vs,RL_cons.2 ⟨by simp only [R,SIok]; exact ⟨a,⟨Int.le_refl _,h.1⟩,rfl⟩,hv⟩⟩
theorem nilOwn_ok (hemp:∀ nm args,X.T.emp nm args=true→∀ E vs,RL E args vs→X.RP nm vs []) (g:G X own0 w0 E st w) {b i nm:Nat} {args:List SV} {st':SE.St}
  (e:nilOwn X.T st b i nm args=some st'):∃ E',E.le E'∧G X own0 w0 E' st' w:=by
 unfold nilOwn at e
 split at e
 ·rename_i el cs hl
  split at e
  ·rename_i hn hc
   cases e
   simp only [Bool.and_eq_true] at hc
   obtain ⟨vs,hvs⟩:=hasV_ok g hc.2.2
   obtain ⟨⟨oe,osz⟩,hoe⟩:=Option.isSome_iff_exists.1 hc.1
   have hn0:=g.nid_none
   have hle:=Env.le_upd (x:=EV.sl none 0 0) hn0
   have g1:=g.mono hle (fun id hid=>Env.upd_ne _ _ (by omega)) (nid:=st.nid+2) (by omega) (fun id hid=>by
    rw [Env.upd_ne _ _ (by omega)]
    exact g.dom id (by omega))
   rcases g.heap b _ hl with ⟨h0,_⟩ | ⟨n,h1,h2,h3,h4⟩
   ·cases h0
   obtain ⟨us,k1,k2⟩:=h4
   have hb:b<st.nid:=g.hid hl
   have g2:=g1.setO (id:=b) (n:=n) (b:=.cells el cs) (b':=.cells el (setN cs i (.sl st.nid))) hl rfl (hle _ _ h1) (w':=w) (fun k hk=>rfl) rfl rfl rfl rfl
    ⟨us,k1,RL_setN (k2.mono hle) hn fun v hv=>by
     simp only [R] at hv ⊢
     exact ⟨none,0,0,Env.upd_self _ _ _,hv⟩⟩
   refine ⟨_,hle,?_⟩
   have hnid:∀ id blk,lk (upd st.heap b (.cells el (setN cs i (.sl st.nid)))) id=some blk→id<st.nid:=fun id blk h=>by
    rw [lk_upd] at h
    split at h
    ·rename_i hh; subst hh; exact hb
    ·exact g.hid h
   refine ⟨g2.size,g2.os,g2.tape,g2.output,g2.frame,?_,?_,g2.tab,?_,g2.dom,?_,g2.facts⟩
   ·intro id blk hl'
    simp only [lk_cons] at hl'
    split at hl'
    ·rename_i hh
     cases hl'
     refine .inl ⟨rfl,by simp only; omega,fun m hm=>?_⟩
     rw [hh,Env.upd_ne _ _ (by omega),g.dom _ (by omega)] at hm
     cases hm
    ·exact g2.heap id blk hl'
   ·intro id id' b1 b2 m p1 p2 p3 p4
    simp only [lk_cons] at p1 p2
    split at p1
    ·rename_i hh
     rw [hh,Env.upd_ne _ _ (by omega),g.dom _ (by omega)] at p3
     cases p3
    ·split at p2
     ·rename_i hh
      rw [hh,Env.upd_ne _ _ (by omega),g.dom _ (by omega)] at p4
      cases p4
     ·exact g2.inj id id' b1 b2 m p1 p2 p3 p4
   ·intro id si hl'
    simp only [lk_cons] at hl'
    split at hl'
    ·rename_i hh
     subst hh
     cases hl'
     refine ⟨by simp [lk_cons],none,0,0,.int .i64 0::vs,Env.upd_self _ _ _,?_,fun x hx=>(by cases hx),oe,osz,vs,hoe,rfl,.inl ⟨rfl,rfl,rfl,hemp nm args hc.2.1 E vs hvs⟩⟩
     refine RL_cons.2 ⟨?_,hvs.mono hle⟩
     simp only [R,SIok]
     exact ⟨0,⟨Int.le_refl _,Int.le_refl _⟩,rfl⟩
    ·have hs:=g2.sls id si hl'
     cases si with
     | bytes len =>
      obtain ⟨base,ln,cap,q1,q2,q3,q4,q5⟩:=hs
      refine ⟨base,ln,cap,q1,q2,q3,q4,fun x hx=>⟨(q5 x hx).1,fun bid blk hb' hc'=>?_⟩⟩
      simp only [lk_cons] at hb'
      split at hb'
      ·rename_i hh
       rw [hh,Env.upd_ne _ _ (by omega),g.dom _ (by omega)] at hc'
       cases hc'
      ·exact (q5 x hx).2 bid blk hb' hc'
     | row b l=>exact hs
     | own b2 nm2 args2 =>
      obtain ⟨q0,q1⟩:=hs
      refine ⟨?_,q1⟩
      simp only [lk_cons]
      have:=hnid b2 _ q0
      rw [if_neg (by omega)]
      exact q0
   ·intro gg cs' hg
    obtain ⟨q1,q2,q3⟩:=g2.gl gg cs' hg
    refine ⟨q1,fun id blk hl' hc'=>?_,q3⟩
    simp only [lk_cons] at hl'
    split at hl'
    ·rename_i hh
     rw [hh,Env.upd_ne _ _ (by omega),g.dom _ (by omega)] at hc'
     cases hc'
    ·exact q2 id blk hl' hc'
  ·cases e
 ·cases e
theorem nilOwns_ok (hemp:∀ nm args,X.T.emp nm args=true→∀ E vs,RL E args vs→X.RP nm vs []):∀ {E:Env} {st:SE.St},G X own0 w0 E st w→∀ l:List (Nat×Nat×Nat×List SV),∃ E',E.le E'∧G X own0 w0 E' (nilOwns X.T st l) w
 | E,st,g,[]=>⟨E,Env.le_refl E,g⟩
 | E,st,g,(b,i,nm,args)::l=>by
  unfold nilOwns
  split
  ·rename_i st' hs
   rw [fStK_eq]
   obtain ⟨E1,h1,g1⟩:=nilOwn_ok hemp g hs
   obtain ⟨E2,h2,g2⟩:=nilOwns_ok hemp g1 l
   exact ⟨E2,Env.le_trans h1 h2,g2⟩
  ·exact ⟨E,Env.le_refl E,g⟩
end SE
end
section
namespace SE
variable {X:Px} {own0:Nat→Prop} {w0 w:World} {E:Env} {st:St} {tm:TT} {a:Act}
def exitOf:SE.X→Exit
 | .n=>.normal
 | .x id=>.exit id
 | .r=>.ret
def PostX (X:Px) (own0:Nat→Prop) (w0:World) (E:Env) (l:List (SE.X×Sx)) (Q:Exit→Act→World→Prop):Prop :=
 ∀ p∈l,∀ E' a' w',E.le E'→G X own0 w0 E' p.2.2 w'→FOk E' p.2.1 a'→Q (exitOf p.1) a' w'
theorem PostX.mono {l l':List (SE.X×Sx)} {E':Env} {Q:Exit→Act→World→Prop} (h:PostX X own0 w0 E l Q) (he:E.le E') (hl:∀ s∈l',s∈l):PostX X own0 w0 E' l' Q :=
 fun s hs E'' a' w' hle=>h s (hl s hs) E'' a' w' (Env.le_trans he hle)
theorem nrm_mem:∀ {l:List Sx} {s:Sx},s∈l→(SE.X.n,s)∈nrm l
 | x::l,s,h=>by
  rcases List.mem_cons.1 h with rfl | h
  ·exact List.mem_cons_self
  ·exact List.mem_cons_of_mem _ (nrm_mem h)
theorem thenL_mem {f:Sx→Option (List (SE.X×Sx))}:∀ {l r:List (SE.X×Sx)},thenL f l=some r→∀ e s,(e,s)∈l→(e=.n→∃ m,f s=some m∧∀ y∈m,y∈r)∧(e≠.n→(e,s)∈r)
 | (e',s')::l,r,h,e,s,hm=>by
  cases e' with
  | n =>
   simp only [thenL] at h
   cases h1:f s' with
   | none=>simp only [h1] at h; cases h
   | some m =>
    cases h2:thenL f l with
    | none=>simp only [h1,h2] at h; cases h
    | some n =>
     simp only [h1,h2,appS_eq,Option.some.injEq] at h
     subst h
     rcases List.mem_cons.1 hm with he | hm
     ·cases he
      exact ⟨fun _=>⟨m,h1,fun y hy=>List.mem_append_left _ hy⟩,fun hne=>absurd rfl hne⟩
     ·obtain ⟨k1,k2⟩:=thenL_mem h2 e s hm
      exact ⟨fun he=>let ⟨m',q1,q2⟩:=k1 he; ⟨m',q1,fun y hy=>List.mem_append_right _ (q2 y hy)⟩,fun he=>List.mem_append_right _ (k2 he)⟩
  | x id =>
   simp only [thenL] at h
   cases h2:thenL f l with
   | none=>simp only [h2] at h; cases h
   | some n =>
    simp only [h2,Option.some.injEq] at h
    subst h
    rcases List.mem_cons.1 hm with he | hm
    ·cases he
     exact ⟨fun he=>(by cases he),fun _=>List.mem_cons_self⟩
    ·obtain ⟨k1,k2⟩:=thenL_mem h2 e s hm
     exact ⟨fun he=>let ⟨m',q1,q2⟩:=k1 he; ⟨m',q1,fun y hy=>List.mem_cons_of_mem _ (q2 y hy)⟩,fun he=>List.mem_cons_of_mem _ (k2 he)⟩
  | r =>
   simp only [thenL] at h
   cases h2:thenL f l with
   | none=>simp only [h2] at h; cases h
   | some n =>
    simp only [h2,Option.some.injEq] at h
    subst h
    rcases List.mem_cons.1 hm with he | hm
    ·cases he
     exact ⟨fun he=>(by cases he),fun _=>List.mem_cons_self⟩
    ·obtain ⟨k1,k2⟩:=thenL_mem h2 e s hm
     exact ⟨fun he=>let ⟨m',q1,q2⟩:=k1 he; ⟨m',q1,fun y hy=>List.mem_cons_of_mem _ (q2 y hy)⟩,fun he=>List.mem_cons_of_mem _ (k2 he)⟩
theorem blockL_mem {id:Nat}:∀ {l:List (SE.X×Sx)} {e:SE.X} {s:Sx},(e,s)∈l→((match e with | .x i=>(bif Nat.beq i id then SE.X.n else .x i) | e=>e),s)∈blockL id l
 | (e',s')::l,e,s,h=>by
  rcases List.mem_cons.1 h with he | h
  ·obtain ⟨rfl,rfl⟩:=Prod.mk.inj he
   cases e <;> simp only [blockL] <;> exact List.mem_cons_self
  ·have:=blockL_mem (id:=id) h
   cases e' <;> simp only [blockL] <;> exact List.mem_cons_of_mem _ this
def setCT (tm:TT) (c:Operand) (b:Bool):TT :=
 match c with
 | .tmp t=>tm.set t (ofB b)
 | _=>tm
theorem setC_eq {α:Type} (tm:TT) (c:Operand) (b:Bool) (k:TT→α):setC tm c b k=k (setCT tm c b):=by
 cases c with
 | tmp t=>simp only [setC,setK_eq,setCT]
 | _=>rfl
theorem FOk.setC (f:FOk E tm a) {c:Operand} {b:Bool} (h:a.eval c=.bool b):FOk E (setCT tm c b) a:=by
 cases c with
 | tmp t=>exact f.refine t (ofB_slot h)
 | _=>exact f
def fill2:Nat→List SV→TT→TT
 | _,[],t=>t
 | i,v::l,t=>fill2 (i+1) l (t.set i v)
theorem fillT_eq {α:Type}:∀ (i:Nat) (l:List SV) (t:TT) (k:TT→α),fillT i l t k=k (fill2 i l t)
 | i,[],t,k=>rfl
 | i,v::l,t,k=>by simp only [fillT,setK_eq,fN_eq,fill2]; exact fillT_eq (i+1) l _ k
theorem FOk.fill:∀ {l:List SV} {vs:List Value} {i:Nat} {t:TT} {a:Act},FOk E t a→RL E l vs→(∀ k v,vs[k]?=some v→a.tmps.getD (i+k) undef=v)→FOk E (fill2 i l t) a
 | [],vs,i,t,a,f,h,k=>f
 | v::l,vs,i,t,a,f,h,k=>by
  simp only [RL] at h
  obtain ⟨u,vs',rfl,h1,h2⟩:=h
  simp only [fill2]
  refine FOk.fill (f.refine i ?_) h2 fun j v hj=>?_
  ·have:=k 0 u (by simp)
   rw [Nat.add_zero] at this
   rw [this]; exact h1
  ·have:=k (j+1) v (by simpa using hj)
   rw [← this]
   congr 1
   omega
theorem FOk.start {l:List SV} {vals:Array Value} (h:RL E l vals.toList) (n:Nat):FOk E (fill2 0 l (mkT n 10 1 0)) { tmps:=vals++Array.replicate (n - vals.size) undef,defers:=[] }:=by
 refine FOk.fill ⟨fun i=>?_,fun i hi=>?_,rfl⟩ h fun k v hk=>?_
 ·rw [TT.get_mkT]; simp only [R]
 ·have:=TT.has_mkT n 10 1 0 i hi
  simp only [Array.size_append,Array.size_replicate]
  omega
 ·have hk':vals[k]?=some v:=by simpa using hk
  obtain ⟨hlt,he⟩:=Array.getElem?_eq_some_iff.1 hk'
  rw [Nat.zero_add]
  simp [Array.getElem?_append_left hlt,hk']
theorem cell_run {P:Program} {t:Nat} {u z:Value} {w:World} (h:(Instr.loadAt t u).run P w=.ok z w):(do loadVar t (← asAddr u):Sem Value).run P w=.ok z w:=by
 unfold Instr.loadAt at h
 cases u with
 | pointer p =>
  cases p with
  | some a=>simpa [Instr.sureAddr,asAddr] using h
  | none=>simp [Instr.sureAddr] at h
 | _=>simp [Instr.sureAddr] at h
theorem resS_ok (hT:TabOk X) (g:G X own0 w0 E st w) (f:FOk E tm a):∀ {rs:List ResultVar} {vs:List SV},resS X.T (tm,st) rs=some vs →
  ∃ zs:List Value,RL E vs zs∧(rs.mapM (fun | .tmp t=>pure (a.tmps.getD t undef) | .cell b t=>do loadVar t (← asAddr (a.tmps.getD b undef)):ResultVar→Sem Value)).run X.P w=.ok zs w
 | [],vs,e=>by
  simp only [resS] at e; cases e
  exact ⟨[],by simp [RL],by simp⟩
 | .tmp t::rs,vs,e=>by
  simp only [resS] at e
  cases h1:resS X.T (tm,st) rs with
  | none=>simp only [h1] at e; cases e
  | some m =>
   simp only [h1,Option.some.injEq] at e
   subst e
   obtain ⟨zs,hz,hr⟩:=resS_ok hT g f h1
   refine ⟨a.tmps.getD t undef::zs,⟨_,_,rfl,f.slot t,hz⟩,?_⟩
   rw [List.mapM_cons,Sem.run_bind,Sem.run_pure,Result.andThen_ok,Sem.run_bind,hr,Result.andThen_ok,Sem.run_pure]
 | .cell b t::rs,vs,e=>by
  simp only [resS] at e
  cases h0:loadS X.T st t (tm.get b) with
  | none=>simp only [h0] at e; cases e
  | some v =>
   cases h1:resS X.T (tm,st) rs with
   | none=>simp only [h0,h1] at e; cases e
   | some m =>
    simp only [h0,h1,Option.some.injEq] at e
    subst e
    obtain ⟨zs,hz,hr⟩:=resS_ok hT g f h1
    obtain ⟨z,hz0,hrun⟩:=loadS_ok hT g h0 (f.slot b)
    refine ⟨z::zs,⟨_,_,rfl,hz0,hz⟩,?_⟩
    rw [List.mapM_cons,Sem.run_bind,cell_run (hrun w (Ext0.refl w)),Result.andThen_ok,Sem.run_bind,hr,Result.andThen_ok,Sem.run_pure]
theorem oneRes_ok {vs:List SV} {zs:Array Value} (h:RL E vs zs.toList):R E (oneRes vs) (if h:zs.size=1 then zs[0] else .tuple zs):=by
 obtain ⟨zl⟩:=zs
 match vs,zl,h with
 | [],zl,h=>simp only [RL] at h; subst h; simp [oneRes,R,RL]
 | [v],zl,h =>
  simp only [RL] at h
  obtain ⟨u,vs',rfl,h1,rfl⟩:=h
  simpa [oneRes] using h1
 | v::v'::vs,zl,h =>
  have h0:=h
  simp only [RL] at h
  obtain ⟨u,vs',rfl,h1,u',vs'',rfl,h2,h3⟩:=h
  have:¬ (#[u,u']++vs''.toArray).size=1:=by simp
  simp only [oneRes]
  rw [dif_neg (by simp)]
  simp only [R]
  exact ⟨_,rfl,h0⟩
theorem ends_mem {T:Tb} {rs:List ResultVar}:∀ {l:List (SE.X×Sx)} {out:Out},ends T rs l=some out→∀ e s,(e,s)∈l→(∀ id,e≠.x id)∧∃ vs,resS T s rs=some vs∧(oneRes vs,s.2)∈out
 | (e',s')::l,out,h,e,s,hm=>by
  have step:(∀ id,e'≠.x id)→∃ vs m,resS T s' rs=some vs∧ends T rs l=some m∧out=(oneRes vs,s'.2)::m:=by
   intro hne
   cases e' with
   | x id=>exact absurd rfl (hne id)
   | n =>
    simp only [ends] at h
    cases h1:resS T s' rs with
    | none=>simp only [h1] at h; cases h
    | some vs =>
     cases h2:ends T rs l with
     | none=>simp only [h1,h2] at h; cases h
     | some m=>simp only [h1,h2,Option.some.injEq] at h; exact ⟨vs,m,rfl,rfl,h.symm⟩
   | r =>
    simp only [ends] at h
    cases h1:resS T s' rs with
    | none=>simp only [h1] at h; cases h
    | some vs =>
     cases h2:ends T rs l with
     | none=>simp only [h1,h2] at h; cases h
     | some m=>simp only [h1,h2,Option.some.injEq] at h; exact ⟨vs,m,rfl,rfl,h.symm⟩
  have hne:(∀ id,e'≠.x id):=by
   intro id hid
   subst hid
   simp only [ends] at h
   cases h
  obtain ⟨vs,m,h1,h2,rfl⟩:=step hne
  rcases List.mem_cons.1 hm with he | hm
  ·cases he
   exact ⟨hne,vs,h1,List.mem_cons_self⟩
  ·obtain ⟨k1,vs',k2,k3⟩:=ends_mem h2 e s hm
   exact ⟨k1,vs',k2,List.mem_cons_of_mem _ k3⟩
def KOk (X:Px) (own0:Nat→Prop) (w0:World):Prop :=
 ∀ g args st l,X.T.k g args st=some (some l)→∀ E w (vals:Array Value),G X own0 w0 E st w→RL E args vals.toList→Calls X.P g vals w (Outs X own0 w0 E l)
def ExOk (X:Px) (own0:Nat→Prop) (w0:World) (ex:Code→Sx→Option (List (SE.X×Sx))):Prop :=
 ∀ c s l,ex c s=some l→∀ E a w (Q:Exit→Act→World→Prop),G X own0 w0 E s.2 w→FOk E s.1 a→PostX X own0 w0 E l Q→c.wp X.P Q a w
theorem callF1_ok (hT:TabOk X) (hK:KOk X own0 w0) {ex:Code→Sx→Option (List (SE.X×Sx))} (hE:ExOk X own0 w0 ex):CallOk X own0 w0 (callF1 X.T ex):=by
 intro g args st l e
 unfold callF1 at e
 cases hfn:X.T.fn.get g with
 | none=>simp only [hfn] at e; cases e
 | some fn =>
  simp only [hfn] at e
  refine ⟨⟨fn,rfl⟩,fun E w vals hG hR=>?_⟩
  cases hk:X.T.k g args st with
  | some r =>
   cases r with
   | none=>simp only [hk] at e; cases e
   | some r =>
    simp only [hk,fOut_eq,Option.some.injEq] at e
    subst e
    exact hK g args st _ hk E w vals hG hR
  | none =>
   simp only [hk] at e
   cases hb:fn.body with
   | none=>simp only [hb] at e; cases e
   | some c =>
    simp only [hb,fillT_eq] at e
    cases hx:ex c (fill2 0 args (mkT fn.ntmps 10 1 0),st) with
    | none=>simp only [hx] at e; cases e
    | some xl =>
     simp only [hx] at e
     obtain ⟨hf,_,_⟩:=hT.fn g fn hfn
     refine calls_of_wp hf hb (hE c _ xl hx E _ w _ hG (FOk.start hR fn.ntmps) ?_)
     intro p hp E' a' w' hle hg hf'
     obtain ⟨xe,s⟩:=p
     obtain ⟨hne,vs,hres,hmem⟩:=ends_mem e xe s hp
     obtain ⟨zs,hz,hrun⟩:=resS_ok hT hg hf' hres
     have hz':RL E' vs zs.toArray.toList:=by simpa using hz
     have hfin:∃ v,(results fn a'.tmps).run X.P w'=.ok v w'∧Outs X own0 w0 E l (.returned v) w':=by
      refine ⟨_,?_,⟨_,hmem,E',_,hle,rfl,oneRes_ok hz',hg⟩⟩
      unfold results
      rw [Sem.run_bind,Array.mapM_eq_mapM_toList,Sem.run_map]
      erw [hrun]
      rfl
     cases xe with
     | n=>exact ⟨hf'.defers,hfin⟩
     | r=>exact ⟨hf'.defers,hfin⟩
     | x id=>exact absurd rfl (hne id)
theorem callF_ok (hT:TabOk X) (hK:KOk X own0 w0) {ex:Code→Sx→Option (List (SE.X×Sx))} (hE:ExOk X own0 w0 ex):CallOk X own0 w0 (callF X.T ex):=by
 intro g args st l e
 unfold callF at e
 cases hfn:X.T.fn.get g with
 | none=>simp only [hfn] at e; cases e
 | some fn =>
  simp only [hfn] at e
  cases hb:bindL (fun p=>callF1 X.T ex g p.1 p.2) (splitA X.T g args (nilOwns X.T st (X.T.pre g args st))) with
  | none=>simp only [hb] at e; cases e
  | some l0 =>
   simp only [hb] at e
   cases e
   refine ⟨⟨fn,rfl⟩,fun E w vals hG hR=>?_⟩
   obtain ⟨E1,hle1,hG1⟩:=nilOwns_ok hT.emp hG (X.T.pre g args st)
   obtain ⟨p,hp,hg,hr⟩:=splitA_ok (T:=X.T) (gi:=g) hG1 (hR.mono hle1)
   obtain ⟨m,hm,hsub⟩:=bindL_mem hb p hp
   refine Calls.mono ((callF1_ok hT hK hE g p.1 p.2 m hm).2 E1 w vals hg hr) fun e w' he=>?_
   obtain ⟨o,ho,E',x,h1,h2,h3,h4⟩:=he
   exact joinO_ok hT.glz ⟨o,hsub o ho,E',x,Env.le_trans hle1 h1,h2,h3,h4⟩
theorem loopX_ok {ex:Code→Sx→Option (List (SE.X×Sx))} (hE:ExOk X own0 w0 ex) {b:Code}:∀ (n:Nat) {s:Sx} {l:List (SE.X×Sx)},loopX (ex b) n s=some l →
  ∀ {E a w} {Q:Exit→Act→World→Prop},G X own0 w0 E s.2 w→FOk E s.1 a→PostX X own0 w0 E l Q→Code.rounds X.P b Q n a w
 | 0,s,l,e,E,a,w,Q,g,f,h=>by simp only [loopX] at e; cases e
 | n+1,s,l,e,E,a,w,Q,g,f,h=>by
  simp only [loopX] at e
  cases h1:ex b s with
  | none=>simp only [h1] at e; cases e
  | some m =>
   simp only [h1] at e
   rw [rounds_succ]
   refine hE b s m h1 E a w _ g f fun p hp E' a' w' hle g' f'=>?_
   obtain ⟨xe,s'⟩:=p
   obtain ⟨k1,k2⟩:=thenL_mem e xe s' hp
   cases xe with
   | n =>
    obtain ⟨m',q1,q2⟩:=k1 rfl
    exact loopX_ok hE n q1 g' f' (h.mono hle q2)
   | x id=>exact h (.x id,s') (k2 (by simp)) E' a' w' hle g' f'
   | r=>exact h (.r,s') (k2 (by simp)) E' a' w' hle g' f'
theorem exec_ok (hT:TabOk X) (hP:PkOk X) (hR:RkOk X) (hK:KOk X own0 w0):∀ f:Nat,ExOk X own0 w0 (exec X.T f)
 | 0=>fun c s l e=>by simp only [exec] at e; cases e
 | f+1=>by
  have ih:=exec_ok hT hP hR hK f
  have hC:=callF_ok hT hK ih
  intro c s l e E a w Q g fo h
  cases c <;> simp only [exec] at e <;> try cases e
  case skip=>exact wp_skip (h (.n,s) (by simp) E a w (Env.le_refl E) g fo)
  case label id=>exact wp_label (h (.n,s) (by simp) E a w (Env.le_refl E) g fo)
  case exit id=>exact wp_exit (h (.x id,s) (by simp) E a w (Env.le_refl E) g fo)
  case ret=>exact wp_ret (h (.r,s) (by simp) E a w (Env.le_refl E) g fo)
  case region id ops dr =>
   cases dr with
   | false =>
    simp only at e
    cases h1:runOps X.T (callF X.T (exec X.T f)) ops.toList ops.toList s with
    | none=>simp only [h1] at e; cases e
    | some m =>
     simp only [h1,Option.some.injEq] at e
     subst e
     exact wp_region_list (runOps_wp hT hP hR hC h1 g fo fun s' hs E' a' w' hle g' f'=>h (.n,s') (nrm_mem hs) E' a' w' hle g' f')
   | true =>
    simp only at e
    cases h1:drawRun X.T (callF X.T (exec X.T f)) ops.toList s with
    | none=>simp only [h1] at e; cases e
    | some m =>
     simp only [h1,Option.some.injEq] at e
     subst e
     unfold drawRun at h1
     simp only [cond_eq_ite] at h1
     split at h1
     ·rename_i hsel
      cases h2:runPlan X.T (callF X.T (exec X.T f)) ops.toList (planOf X.T ops.toList) s with
      | none=>simp only [h2] at h1; cases h1
      | some m' =>
       simp only [h2,Option.some.injEq] at h1
       subst h1
       simp only [planOf,fInf_eq] at h2
       refine wp_mono (Q:=fun e a w=>match e with | .normal=>Q .normal a w | _=>False) (wp_region_any hT.mixed ?_) ?_
       ·have:=plan_ok hT hP hR hC (Q:=fun e a w=>match e with | .normal=>Q .normal a w | _=>False) (fun c a w hh=>hh) hsel ops.toList.length (LM.zero ops) h2 (w:=w.drew) (a:=a) (E:=E) g.drew fo
         (fun s' hs E' a' w' hle g' f'=>h (.n,s') (nrm_mem (dedup_mem hs)) E' a' w' hle g' f')
        simpa using this
       ·intro e a w he
        cases e <;> first
         | exact he
         | exact he.elim
     ·cases h1
  case seq x y =>
   cases h1:exec X.T f x s with
   | none=>simp only [h1] at e; cases e
   | some m =>
    simp only [h1] at e
    refine wp_seq (ih x s m h1 E a w _ g fo fun p hp E' a' w' hle g' f'=>?_)
    obtain ⟨xe,s'⟩:=p
    obtain ⟨k1,k2⟩:=thenL_mem e xe s' hp
    cases xe with
    | n =>
     obtain ⟨m',q1,q2⟩:=k1 rfl
     exact ih y s' m' q1 E' a' w' _ g' f' (h.mono hle q2)
    | x id=>exact h (.x id,s') (k2 (by simp)) E' a' w' hle g' f'
    | r=>exact h (.r,s') (k2 (by simp)) E' a' w' hle g' f'
  case cond c x y =>
   have hv:=fo.eval c
   cases hb:evalB s.2 (rho s.1 c) with
   | some b =>
    have hv':=evalB_ok g hb hv
    simp only [hb] at e
    refine wp_cond_split hv' (fun ht=>?_) (fun ht=>?_) <;> subst ht <;> simp only at e
    ·exact ih x s l e E a w Q g fo h
    ·exact ih y s l e E a w Q g fo h
   | none =>
    simp only [hb,cond_eq_ite] at e
    split at e
    ·rename_i hi
     obtain ⟨b,hv'⟩:=isB_ok hi hv
     have hs:R E (rho s.1 c) (.bool b):=by rw [← hv']; exact hv
     obtain ⟨st',ha,g'⟩:=assumeL_ok g hs
     have f':=fo.setC hv'
     simp only [setC_eq,fSt_eq,fStM_eq,fStT_eq] at e
     revert e
     split
     ·rename_i l m h1 h2
      intro e
      cases e
      refine wp_cond_split hv' (fun ht=>?_) (fun ht=>?_) <;> subst ht
      ·obtain ⟨m',hm1,hm2⟩:=bindL_mem h1 st' ha
       exact ih x _ m' hm1 E a w Q g' f' (h.mono (Env.le_refl E) fun p hp=>List.mem_append_left _ (hm2 p hp))
      ·obtain ⟨m',hm1,hm2⟩:=bindL_mem h2 st' ha
       exact ih y _ m' hm1 E a w Q g' f' (h.mono (Env.le_refl E) fun p hp=>List.mem_append_right _ (hm2 p hp))
     ·intro e; cases e
    ·cases e
  case block id b =>
   cases h1:exec X.T f b s with
   | none=>simp only [h1] at e; cases e
   | some m =>
    simp only [h1,Option.some.injEq] at e
    subst e
    refine wp_block (ih b s m h1 E a w _ g fo fun p hp E' a' w' hle g' f'=>?_)
    obtain ⟨xe,s'⟩:=p
    have hm:=blockL_mem (id:=id) hp
    cases xe with
    | n=>exact h (.n,s') hm E' a' w' hle g' f'
    | r=>exact h (.r,s') hm E' a' w' hle g' f'
    | x i =>
     simp only [exitOf,Exit.inBlock]
     simp only at hm
     cases hq:Nat.beq i id with
     | true =>
      rw [hq] at hm
      rw [if_pos (nbeq hq)]
      exact h (.n,s') hm E' a' w' hle g' f'
     | false =>
      rw [hq] at hm
      rw [if_neg (nbeq_false hq)]
      exact h (.x i,s') hm E' a' w' hle g' f'
  case loop b=>exact wp_loop_rounds 300 (loopX_ok ih 300 e g fo h)
theorem run_ok (hT:TabOk X) (hP:PkOk X) (hR:RkOk X) (hK:KOk X own0 w0) (f:Nat) {g:Nat} {args:List SV} {st:St} {l:Out} (e:run X.T f g args st=some l) {E:Env} {w:World} {vals:Array Value}
  (hG:G X own0 w0 E st w) (hr:RL E args vals.toList):Calls X.P g vals w (Outs X own0 w0 E l) :=
 ((callF_ok hT hK (exec_ok hT hP hR hK f)) g args st l e).2 E w vals hG hr
end SE
end
end Go.Proofs.YtdgejnakakjgfaaGreatDoor
