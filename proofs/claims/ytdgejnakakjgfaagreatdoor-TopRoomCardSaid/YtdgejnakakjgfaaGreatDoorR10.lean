/- Summaries as contracts; contracts under other tables; a run as a summary. Turned words: right 186 only reckons. PRINTED by gen_ui.py. Functions of values alone: their contracts by a run from the empty state; the sum's words and blocks. The sum's words and blocks: their contracts, by runs. The sum's blocks: their contract, by a run. Functions of one row of bytes: their contracts by a run for each length. Sums of rows of bytes: a contract for each length. The sum of a row of bytes, for each length that comes. -/
import Derived.Test.YtdgejnakakjgfaaGreatDoorR09
import Derived.Outline
import Derived.Deep.QuietTactic
set_option linter.unusedVariables false
set_option linter.unusedSimpArgs false
set_option maxRecDepth 100000
namespace Go.Proofs.YtdgejnakakjgfaaGreatDoor
section
namespace SE
variable {X Y:Px} {own0:Nat→Prop} {w0 w:World} {E:Env} {st S:SE.St}
theorem RL_setN2 {E:Env}:∀ {l:List SV} {vs:List Value} {i:Nat} {x y:SV} {v:Value},RL E l vs→nth l i=some x→vs[i]?=some v→R E y v→RL E (setN l i y) vs
 | [],vs,i,x,y,v,h,e,_,_=>by simp [nth] at e
 | a::l,[],i,x,y,v,h,e,_,_=>by simp [RL] at h
 | a::l,u::vs,0,x,y,v,h,e,hv,hy=>by
  simp only [List.getElem?_cons_zero,Option.some.injEq] at hv
  subst hv
  simp only [setN]
  exact RL_cons.2 ⟨hy,(RL_cons.1 h).2⟩
 | a::l,u::vs,i+1,x,y,v,h,e,hv,hy=>by
  simp only [setN]
  simp only [nth] at e
  simp only [List.getElem?_cons_succ] at hv
  exact RL_cons.2 ⟨(RL_cons.1 h).1,RL_setN2 (RL_cons.1 h).2 e hv hy⟩
theorem nameCell_ok (g:G X own0 w0 E st w) (b i:Nat):∃ E',E.le E'∧G X own0 w0 E' (nameCell st b i) w:=by
 have triv:∃ E',E.le E'∧G X own0 w0 E' st w:=⟨E,Env.le_refl E,g⟩
 unfold nameCell
 split
 ·rename_i e cs hl
  split
  ·rename_i k l h hn
   cases hb:decide (l=h) with
   | true=>exact triv
   | false =>
    simp only [cond_false]
    rcases g.heap b _ hl with ⟨e',_⟩ | ⟨n,q1,q2,q3,vs,q4,q5⟩
    ·cases e'
    ·obtain ⟨v,hv,hr⟩:=RL_nth q5 hn
     simp only [R,SIok] at hr
     obtain ⟨z,⟨z1,z2⟩,rfl⟩:=hr
     have hle:=Env.le_upd (x:=EV.z z) g.nid_none
     have g1:=g.mono hle (fun id hid=>Env.upd_ne _ _ (by omega)) (Nat.le_succ _) (dom_upd g _)
     refine ⟨E.upd st.nid (.z z),hle,?_⟩
     have hself:(E.upd st.nid (.z z)) st.nid=some (.z z):=Env.upd_self _ _ _
     have hcell:RL (E.upd st.nid (.z z)) (setN cs i (.int k (.a st.nid))) vs.toList :=
      RL_setN2 (q5.mono hle) hn hv (by simp only [R,SIok]; exact ⟨z,hself,rfl⟩)
     have hk:∀ id blk,lk (upd st.heap b (.cells e (setN cs i (.int k (.a st.nid))))) id=some blk→∃ blk',lk st.heap id=some blk'∧(id=b∨(id≠b∧blk'=blk)):=by
      intro id blk h1
      rw [lk_upd] at h1
      split at h1
      ·rename_i e1; subst e1; exact ⟨_,hl,.inl rfl⟩
      ·rename_i e1; exact ⟨_,h1,.inr ⟨e1,rfl⟩⟩
     refine ⟨g1.size,g1.os,g1.tape,g1.output,g1.frame,?_,?_,?_,?_,g1.dom,?_,g1.facts⟩
     ·intro id blk h1
      simp only [] at h1
      rw [lk_upd] at h1
      split at h1
      ·rename_i e1
       subst e1
       cases h1
       exact .inr ⟨n,hle _ _ q1,q2,q3,vs,q4,hcell⟩
      ·exact g1.heap id blk h1
     ·intro id id' b1 b2 m h1 h2 h3 h4
      obtain ⟨c1,p1,_⟩:=hk id b1 h1
      obtain ⟨c2,p2,_⟩:=hk id' b2 h2
      exact g1.inj id id' c1 c2 m p1 p2 h3 h4
     ·intro id lo hi h1
      simp only [lk_cons] at h1
      split at h1
      ·rename_i e1; subst e1; cases h1; exact ⟨z,hself,z1,z2⟩
      ·exact g1.tab id lo hi h1
     ·intro id s h1
      have hs:=g1.sls id s h1
      cases s with
      | bytes len =>
       obtain ⟨base,ln,cap,k1,k2,k3,k4,k5⟩:=hs
       refine ⟨base,ln,cap,k1,k2,k3,k4,fun x hx=>⟨(k5 x hx).1,fun bid blk hb=>?_⟩⟩
       obtain ⟨c1,p1,_⟩:=hk bid blk hb
       exact (k5 x hx).2 bid c1 p1
      | row b len=>exact hs
      | own b' nm args =>
       obtain ⟨k0,k1⟩:=hs
       refine ⟨?_,k1⟩
       simp only []
       rw [lk_upd]
       split
       ·rename_i e1
        subst e1
        simp only [] at k0
        rw [hl] at k0
        cases k0
       ·exact k0
     ·intro gg cs' hg
      obtain ⟨k1,k2,k3⟩:=g1.gl gg cs' hg
      refine ⟨k1,fun id blk h1=>?_,k3⟩
      obtain ⟨c1,p1,_⟩:=hk id blk h1
      exact k2 id c1 p1
  ·exact triv
 ·exact triv
theorem nameCells_ok:∀ (l:List (Nat×Nat)) {E:Env} {st:SE.St},G X own0 w0 E st w→∃ E',E.le E'∧G X own0 w0 E' (nameCells st l) w
 | [],E,st,g=>⟨E,Env.le_refl E,g⟩
 | (b,i)::l,E,st,g=>by
  simp only [nameCells,fStM_eq,fStT_eq]
  obtain ⟨E1,h1,g1⟩:=nameCell_ok g b i
  obtain ⟨E2,h2,g2⟩:=nameCells_ok l g1
  exact ⟨E2,Env.le_trans h1 h2,g2⟩
structure Tbl (X Y:Px):Prop where
 P:Y.P=X.P
 gl:Y.T.gl=X.T.gl
 ownE:Y.T.ownE=X.T.ownE
 UF:Y.UF=X.UF
 RP:Y.RP=X.RP
theorem Tbl.symm (t:Tbl X Y):Tbl Y X:=⟨t.P.symm,t.gl.symm,t.ownE.symm,t.UF.symm,t.RP.symm⟩
theorem G.tbl (t:Tbl X Y) (g:G X own0 w0 E st w):G Y own0 w0 E st w:=by
 refine ⟨g.size,g.os,g.tape,g.output,g.frame,g.heap,g.inj,g.tab,fun id i hl=>?_,g.dom,fun gg cs hg=>g.gl gg cs (by rw [← t.gl]; exact hg),fun x hx=>?_⟩
 ·have:=g.sls id i hl
  cases i with
  | bytes len=>exact this
  | row b len=>exact this
  | own b nm args =>
   obtain ⟨h0,base,ln,cap,vs,h1,h2,h3,e,sz,rest,h4,h5,h6⟩:=this
   exact ⟨h0,base,ln,cap,vs,h1,h2,h3,e,sz,rest,by rw [t.ownE]; exact h4,h5,by rw [t.RP]; exact h6⟩
 ·obtain ⟨vs,h1,h2⟩:=g.facts x hx
  exact ⟨vs,h1,by rw [t.UF]; exact h2⟩
theorem Outs.tbl (t:Tbl X Y) {l:Out} {e:Ending} (h:Outs X own0 w0 E l e w):Outs Y own0 w0 E l e w:=by
 obtain ⟨o,h1,E',x,h2,h3,h4,h5⟩:=h
 exact ⟨o,h1,E',x,h2,h3,h4,h5.tbl t⟩
theorem KOne.tbl (t:Tbl X Y) {gi:Nat} {kf:List SV→SE.St→Option Out} (h:KOne X gi kf):KOne Y gi kf:=by
 intro own0 w0 args st l hk E w vals g hr
 rw [t.P]
 exact (h own0 w0 args st l hk E w vals (g.tbl t.symm) hr).mono fun e w' he=>he.tbl t
def kL (ks:List (Nat×(List SV→SE.St→Option Out))) (g:Nat) (args:List SV) (st:SE.St):Option (Option Out) :=
 match lk ks g with
 | some kf=>some (kf args st)
 | none=>none
def KAll (X:Px):List (Nat×(List SV→SE.St→Option Out))→Prop
 | []=>True
 | p::l=>KOne X p.1 p.2∧KAll X l
theorem KAll.mem {ks:List (Nat×(List SV→SE.St→Option Out))} (h:KAll X ks):∀ {g:Nat} {kf:List SV→SE.St→Option Out},lk ks g=some kf→KOne X g kf:=by
 induction ks with
 | nil=>intro g kf e; simp [lk] at e
 | cons p l ih =>
  intro g kf e
  obtain ⟨i,k⟩:=p
  rw [lk_cons] at e
  split at e
  ·rename_i he; subst he; cases e; exact h.1
  ·exact ih h.2 e
theorem KAll.tbl (t:Tbl X Y):∀ {ks:List (Nat×(List SV→SE.St→Option Out))},KAll X ks→KAll Y ks
 | [],h=>trivial
 | p::l,h=>⟨h.1.tbl t,KAll.tbl t h.2⟩
theorem kok {ks:List (Nat×(List SV→SE.St→Option Out))} (h:KAll X ks) (hk:X.T.k=kL ks) (own0:Nat→Prop) (w0:World):KOk X own0 w0:=by
 intro g args st l e E w vals hG hr
 rw [hk] at e
 unfold kL at e
 split at e
 ·rename_i kf hl
  simp only [Option.some.injEq] at e
  exact h.mem hl own0 w0 args st l e E w vals hG hr
 ·cases e
variable {pc:Array Value}
noncomputable def TL (ks:List (Nat×(List SV→SE.St→Option Out))) (jn:Nat→Bool) (nb:Bool):Tb:={ TC with k:=kL ks,join:=jn,nameB:=nb }
noncomputable def XL (pc:Array Value) (ks:List (Nat×(List SV→SE.St→Option Out))) (jn:Nat→Bool) (nb:Bool):Px:=⟨Tryz.prog,TL ks jn nb,UFc pc,RPc pc⟩
variable {ks:List (Nat×(List SV→SE.St→Option Out))} {jn:Nat→Bool} {nb:Bool}
theorem tblL:Tbl (Xc pc) (XL pc ks jn nb):=⟨rfl,rfl,rfl,rfl,rfl⟩
theorem empL:∀ nm args,(XL pc ks jn nb).T.emp nm args=true→∀ E vs,RL E args vs→(XL pc ks jn nb).RP nm vs []:=fun nm args h E vs hr=>emp_ok (pc:=pc) nm args h E vs hr
theorem tabL:TabOk (XL pc ks jn nb):=tab_ok rfl rfl rfl (fun t nm r h=>by simp [XL,TL,TC] at h) empL (fun gg cs h=>glc_ok (pc:=pc) gg cs h) (fun t h=>by simp [XL,TL,TC] at h)
theorem pkL:PkOk (XL pc ks jn nb) where
 fn:=fun g h=>pkc (pc:=pc).fn g h
 ok:=fun g args st v hg h own0 w0 E w g' vals hr=>pkc (pc:=pc).ok g args st v hg h own0 w0 E w (g'.tbl tblL.symm) vals hr
theorem rkL:RkOk (XL pc ks jn nb) where
 app:=fun nm args new st args' h own0 w0 E w g vs us ns=>appc (pc:=pc) nm args new st args' h own0 w0 E w (g.tbl tblL.symm) vs us ns
 fn:=fun g h=>rkc (pc:=pc).fn g h
 ok:=fun g args st v hg h own0 w0 E w g' vals hr=>rkc (pc:=pc).ok g args st v hg h own0 w0 E w (g'.tbl tblL.symm) vals hr
structure Sm where
 S:SE.St
 args:List SV
 outs:Out
def SmOk (X:Px) (gi:Nat) (m:Sm):Prop :=
 (∀ o∈m.outs,nodupSt o.2=true)∧∀ own0 w0 E w (vals:Array Value),G X own0 w0 E m.S w→RL E m.args vals.toList→Calls X.P gi vals w (Outs X own0 w0 E m.outs)
def instA (b:SE.St) (ren:Ren):List SV→List SV→Bool
 | [],[]=>true
 | v::l,w::m=>inst b ren v w&&instA b ren l m
 | _,_=>false
theorem instA_ok (g:G X own0 w0 E st w) {ren:Ren}:∀ {l m:List SV} {vs:List Value},instA st ren l m=true→RL E m vs→RL (envOf ren E) l vs
 | [],[],vs,_,hm=>by rw [RL_nil.1 hm]; simp [RL]
 | v::l,w::m,[],h,hm=>by simp [RL] at hm
 | v::l,w::m,x::vs,h,hm=>by
  simp only [instA,Bool.and_eq_true] at h
  exact RL_cons.2 ⟨inst_ok g _ _ h.1 (RL_cons.1 hm).1,instA_ok g h.2 (RL_cons.1 hm).2⟩
def fSx (o:SV×SE.St) (k:SV→SE.St→SV×SE.St):SV×SE.St:=fV o.1 fun v=>fStK o.2 fun st=>k v st
def liveT (st:SE.St) (f:Nat→Rn):List (Nat×Int×Int)→Bool
 | []=>true
 | (i,a,b)::l=>(match f i with
  | .z k=>decide (a≤k)&&decide (k≤b)
  | .nm j=>match lk st.tab j with
   | some (lo,hi)=>decide (lo≤b)&&decide (a≤hi)
   | none=>true)&&liveT st f l
def placeL (keep:Bool) (st S:SE.St) (ren:List (Nat×Rn)):Out→Out
 | []=>[]
 | o::l=>bif liveT st (toF (resR st ren) st.nid) o.2.tab then fSx (place keep st S ren o) (fun v s=>(v,s))::placeL keep st S ren l else placeL keep st S ren l
def pairA1 {α:Type} (x y:SV) (acc:List (Nat×Rn)) (k:List (Nat×Rn)→α):α :=
 match x,y with
 | .agg l,.agg m=>pairMs l m acc k
 | x,y=>fR (pairM x y acc) k
def pairAs {α:Type}:List SV→List SV→List (Nat×Rn)→(List (Nat×Rn)→α)→α
 | x::l,y::m,acc,k=>pairA1 x y acc fun acc=>pairAs l m acc k
 | _,_,acc,k=>k acc
def kSm (m:Sm) (named:List (Nat×Nat)) (keep:Bool) (args:List SV) (st:SE.St):Option Out :=
 match nameCells st named with
 | st=>pairAs m.args args [] fun acc=>mHeap st m.S.heap acc fun acc=>mSls st m.S.sls acc fun acc =>
  bif instA st ⟨0,acc⟩ m.args args&&fit m.S st zT ⟨0,acc⟩ then some (placeL keep st m.S acc m.outs) else none
theorem fR_eq {α:Type} (x:List (Nat×Rn)) (k:List (Nat×Rn)→α):fR x k=k x:=by
 cases x with
 | nil=>rfl
 | cons p l=>obtain ⟨i,r⟩:=p; rfl
theorem fSx_eq (o:SV×SE.St) (k:SV→SE.St→SV×SE.St):fSx o k=k o.1 o.2:=by simp only [fSx,fV_eq,fStK_eq]
theorem placeL_mem {keep:Bool} {ren:List (Nat×Rn)}:∀ {l:Out} {o:SV×SE.St},o∈l→liveT st (toF (resR st ren) st.nid) o.2.tab=true→place keep st S ren o∈placeL keep st S ren l
 | x::l,o,h,hv=>by
  simp only [placeL,fSx_eq]
  rcases List.mem_cons.1 h with rfl | h
  ·rw [hv]
   exact List.mem_cons_self
  ·cases liveT st (toF (resR st ren) st.nid) x.2.tab with
   | true=>exact List.mem_cons_of_mem _ (placeL_mem h hv)
   | false=>exact placeL_mem h hv
theorem liveT_ok {f:Nat→Rn} {E1 E2:Env} (g:G X own0 w0 E st w) (hle:E.le E2) (hf:FE f E1 E2):∀ {l:List (Nat×Int×Int)},(∀ i r,(i,r)∈l→∃ z,E1 i=some (.z z)∧r.1≤z∧z≤r.2)→liveT st f l=true
 | [],_=>rfl
 | (i,a,b)::l,h=>by
  simp only [liveT,Bool.and_eq_true]
  refine ⟨?_,liveT_ok g hle hf fun i r hm=>h i r (List.mem_cons_of_mem _ hm)⟩
  obtain ⟨z,hz,z1,z2⟩:=h i (a,b) List.mem_cons_self
  simp only at z1 z2
  split
  ·rename_i k e
   have:=hf.z e
   rw [hz] at this
   cases this
   simp only [Bool.and_eq_true,decide_eq_true_eq]
   omega
  ·rename_i j e
   have h2:=hf.nm e
   rw [hz] at h2
   split
   ·rename_i lo hi hl
    obtain ⟨z',hz',q1,q2⟩:=g.tab j lo hi hl
    have:=hle _ _ hz'
    rw [h2] at this
    cases this
    simp only [Bool.and_eq_true,decide_eq_true_eq]
    omega
   ·rfl
theorem pairMs_acc {α:Type} {P:α→Prop}:∀ {l m:List SV} {acc:List (Nat×Rn)} {k:List (Nat×Rn)→α},(∀ acc,P (k acc))→P (pairMs l m acc k)
 | x::l,y::m,acc,k,h=>by
  simp only [pairMs,fR_eq]
  exact pairMs_acc (l:=l) h
 | [],m,acc,k,h=>by simp only [pairMs]; exact h acc
 | x::l,[],acc,k,h=>by simp only [pairMs]; exact h acc
theorem mHeap_acc {α:Type} {P:α→Prop} {b:SE.St}:∀ {l:List (Nat×Blk)} {acc:List (Nat×Rn)} {k:List (Nat×Rn)→α},(∀ acc,P (k acc))→P (mHeap b l acc k)
 | [],acc,k,h=>by simp only [mHeap]; exact h acc
 | (i,.cells e cs)::l,acc,k,h=>by
  simp only [mHeap]
  split
  ·exact pairMs_acc fun acc=>mHeap_acc h
  ·exact mHeap_acc h
 | (i,.row ..)::l,acc,k,h=>by simp only [mHeap]; exact mHeap_acc h
 | (i,.map ..)::l,acc,k,h=>by simp only [mHeap]; exact mHeap_acc h
 | (i,.opq)::l,acc,k,h=>by simp only [mHeap]; exact mHeap_acc h
 | (i,.ro e cs)::l,acc,k,h=>by
  simp only [mHeap]
  split
  ·exact pairMs_acc fun acc=>mHeap_acc h
  ·exact mHeap_acc h
 | (i,.res ..)::l,acc,k,h=>by simp only [mHeap]; exact mHeap_acc h
theorem mSls_acc {α:Type} {P:α→Prop} {b:SE.St}:∀ {l:List (Nat×SlI)} {acc:List (Nat×Rn)} {k:List (Nat×Rn)→α},(∀ acc,P (k acc))→P (mSls b l acc k)
 | [],acc,k,h=>by simp only [mSls]; exact h acc
 | (i,.own c n args)::l,acc,k,h=>by
  simp only [mSls]
  split
  ·simp only [fR_eq]
   exact pairMs_acc fun acc=>mSls_acc h
  ·exact mSls_acc h
 | (i,.bytes x)::l,acc,k,h=>by
  simp only [mSls]
  split
  ·simp only [fR_eq]
   exact mSls_acc h
  ·exact mSls_acc h
 | (i,.row ..)::l,acc,k,h=>by simp only [mSls]; exact mSls_acc h
theorem pairA1_acc {α:Type} {P:α→Prop} {x y:SV} {acc:List (Nat×Rn)} {k:List (Nat×Rn)→α} (h:∀ acc,P (k acc)):P (pairA1 x y acc k):=by
 unfold pairA1
 split
 ·exact pairMs_acc h
 ·rw [fR_eq]
  exact h _
theorem pairAs_acc {α:Type} {P:α→Prop}:∀ {l m:List SV} {acc:List (Nat×Rn)} {k:List (Nat×Rn)→α},(∀ acc,P (k acc))→P (pairAs l m acc k)
 | x::l,y::m,acc,k,h=>by
  simp only [pairAs]
  exact pairA1_acc fun acc=>pairAs_acc h
 | [],m,acc,k,h=>by simp only [pairAs]; exact h acc
 | x::l,[],acc,k,h=>by simp only [pairAs]; exact h acc
theorem kSm_ok (hgl:GlOk X) (hZ:FzOk X zT) {gi:Nat} {m:Sm} (h:SmOk X gi m) (named:List (Nat×Nat)) (keep:Bool):KOne X gi (kSm m named keep):=by
 intro own0 w0 args st l hk E w vals g hr
 obtain ⟨E1,hle1,g1⟩:=nameCells_ok named g
 have hr1:=hr.mono hle1
 have main:∀ acc,instA (nameCells st named) ⟨0,acc⟩ m.args args=true→fit m.S (nameCells st named) zT ⟨0,acc⟩=true →
   Calls X.P gi vals w (Outs X own0 w0 E (placeL keep (nameCells st named) m.S acc m.outs)):=by
  intro acc ha hf
  have gS:=fit_ok g1 hf hgl hZ
  refine (h.2 _ _ _ w vals gS (instA_ok g1 ha hr1)).mono fun e w' he=>?_
  obtain ⟨o,ho,E2,x,h1,h2,h3,h4⟩:=he
  obtain ⟨E3,k1,k2,k3⟩:=place_ok g1 hf hgl keep h1 h3 (h.1 o ho) h4
  have hlive:liveT (nameCells st named) (toF (resR (nameCells st named) acc) (nameCells st named).nid) o.2.tab=true:=by
   have hnd:=h.1 o ho
   simp only [nodupSt,Bool.and_eq_true] at hnd
   refine liveT_ok g1 (fun id y hy=>?_) (place_FE g1 h1) fun i r hm=>h4.tab i r.1 r.2 (mem_lk hnd.2.1 hm)
   have:id<(nameCells st named).nid:=Nat.lt_of_not_le fun hn=>by rw [g1.dom id hn] at hy; cases hy
   simp only [placeE,if_pos this]
   exact hy
  exact ⟨_,placeL_mem ho hlive,E3,x,Env.le_trans hle1 k1,h2,k2,k3⟩
 unfold kSm at hk
 have key:∀ r:Option Out,(∃ acc,r=(bif instA (nameCells st named) ⟨0,acc⟩ m.args args&&fit m.S (nameCells st named) zT ⟨0,acc⟩ then some (placeL keep (nameCells st named) m.S acc m.outs) else none))→r=some l →
   Calls X.P gi vals w (Outs X own0 w0 E l):=by
  rintro r ⟨acc,e⟩ hrl
  rw [e] at hrl
  cases hb:(instA (nameCells st named) ⟨0,acc⟩ m.args args&&fit m.S (nameCells st named) zT ⟨0,acc⟩) with
  | false=>rw [hb] at hrl; cases hrl
  | true =>
   rw [hb] at hrl
   cases hrl
   simp only [Bool.and_eq_true] at hb
   exact main acc hb.1 hb.2
 refine key _ ?_ hk
 let Q:Option Out→Prop:=fun r=>∃ acc,r=(bif instA (nameCells st named) ⟨0,acc⟩ m.args args&&fit m.S (nameCells st named) zT ⟨0,acc⟩ then some (placeL keep (nameCells st named) m.S acc m.outs) else none)
 exact pairAs_acc (P:=Q) fun acc=>mHeap_acc (P:=Q) fun acc=>mSls_acc (P:=Q) fun acc=>⟨acc,rfl⟩
def addR5 (L i:Nat) (r:Rn) (acc:List (Nat×Rn)):List (Nat×Rn):=bif Nat.ble L i then addR i r acc else acc
def pairM5 (L:Nat) (x y:SV) (acc:List (Nat×Rn)):List (Nat×Rn) :=
 match x,y with
 | .int _ (.a i),.int _ (.a j)=>addR5 L i (.nm j) acc
 | .int _ (.a i),.int _ (.r a b)=>bif decide (a=b) then addR5 L i (.z a) acc else acc
 | .cmp _ i _,.cmp _ j _=>addR5 L i (.nm j) acc
 | .cmp _ i _,.tt=>addR5 L i (.z 1) acc
 | .cmp _ i _,.ff=>addR5 L i (.z 0) acc
 | .sl i,.sl j=>addR5 L i (.nm j) acc
 | .ptr i _,.ptr j _=>addR5 L i (.nm j) acc
 | _,_=>acc
def pairMs5 {α:Type} (L:Nat):List SV→List SV→List (Nat×Rn)→(List (Nat×Rn)→α)→α
 | x::l,y::m,acc,k=>fR (pairM5 L x y acc) fun acc=>pairMs5 L l m acc k
 | _,_,acc,k=>k acc
def pairMv5 {α:Type} (L:Nat) (x y:SV) (acc:List (Nat×Rn)) (k:List (Nat×Rn)→α):α :=
 match x,y with
 | .agg l,.agg m=>pairMs5 L l m acc k
 | .tup l,.tup m=>pairMs5 L l m acc k
 | x,y=>k (pairM5 L x y acc)
def mHeap5 {α:Type} (L:Nat) (b:SE.St):List (Nat×Blk)→List (Nat×Rn)→(List (Nat×Rn)→α)→α
 | [],acc,k=>k acc
 | (i,.cells _ cs)::l,acc,k=>(match lk b.heap (nameIn acc i) with
  | some (.cells _ ds)=>pairMs5 L cs ds acc fun acc=>mHeap5 L b l acc k
  | _=>mHeap5 L b l acc k)
 | _::l,acc,k=>mHeap5 L b l acc k
def mSls5 {α:Type} (L:Nat) (b:SE.St):List (Nat×SlI)→List (Nat×Rn)→(List (Nat×Rn)→α)→α
 | [],acc,k=>k acc
 | (i,.own c _ args)::l,acc,k=>(match lk b.sls (nameIn acc i) with
  | some (.own d _ args')=>fR (addR5 L c (.nm d) acc) fun acc=>pairMs5 L args args' acc fun acc=>mSls5 L b l acc k
  | _=>mSls5 L b l acc k)
 | (i,.row c _)::l,acc,k=>(match lk b.sls (nameIn acc i) with
  | some (.row d _)=>fR (addR5 L c (.nm d) acc) fun acc=>mSls5 L b l acc k
  | _=>mSls5 L b l acc k)
 | _::l,acc,k=>mSls5 L b l acc k
def mRow5 {α:Type} (L:Nat) (b:SE.St):List (Nat×Blk)→List (Nat×Rn)→(List (Nat×Rn)→α)→α
 | [],acc,k=>k acc
 | (i,.row _ _ _ cs)::l,acc,k=>(match lk b.heap (nameIn acc i) with
  | some (.row _ _ _ ds)=>pairMs5 L cs ds acc fun acc=>mRow5 L b l acc k
  | _=>mRow5 L b l acc k)
 | _::l,acc,k=>mRow5 L b l acc k
def caseZ (v:SV) (st:SE.St) (x:SV×SE.St) (r:Ren):Bool :=
 inst x.2 r v x.1&&(fit st x.2 zT r&&(Nat.ble x.2.nid r.lim&&above r.lim r.l))
def isCase (L:Nat) (named:List (Nat×Nat)) (p o:SV×SE.St):Bool :=
 match nameCells o.2 named with
 | b=>pairMv5 L p.1 o.1 [] fun acc=>mHeap5 L b p.2.heap acc fun acc=>mSls5 L b p.2.sls acc fun acc=>mRow5 L b p.2.heap acc fun acc=>caseZ p.1 p.2 (o.1,b) ⟨L,acc⟩
def anyCase (L:Nat) (named:List (Nat×Nat)) (o:SV×SE.St):Out→Bool
 | []=>false
 | p::l=>bif isCase L named p o then true else anyCase L named o l
def allCase (L:Nat) (named:List (Nat×Nat)) (outs:Out):Out→Bool
 | []=>true
 | o::l=>anyCase L named o outs&&allCase L named outs l
def nodupO:Out→Bool
 | []=>true
 | o::l=>nodupSt o.2&&nodupO l
def runFits (L:Nat) (named:List (Nat×Nat)) (outs:Out):Option Out→Bool
 | some l=>nodupO outs&&allCase L named outs l
 | none=>false
theorem caseZ_ok (hgl:GlOk X) (hZ:FzOk X zT) {v:SV} {S:SE.St} {o:SV×SE.St} {r:Ren} (h:caseZ v S o r=true) {x:Value} (hx:R E o.1 x) (g:G X own0 w0 E o.2 w):E.le (envOf r E)∧R (envOf r E) v x∧G X own0 w0 (envOf r E) S w:=by
 simp only [caseZ,Bool.and_eq_true] at h
 obtain ⟨h1,h2,h3,h4⟩:=h
 refine ⟨fun id y hy=>?_,inst_ok g _ _ h1 hx,fit_same g h2 hgl hZ⟩
 have hlt:id<r.lim:=by
  have h3:=Nat.le_of_ble_eq_true h3
  apply Nat.lt_of_not_le
  intro hn
  rw [g.dom id (by omega)] at hy
  cases hy
 have:rnf r id=some (.nm id):=by
  unfold rnf
  rw [above_ok h4 hlt]
  have:Nat.blt id r.lim=true:=Nat.ble_eq_true_of_le hlt
  simp only [this,cond_true]
 simp only [envOf,this]
 exact hy
theorem pairMs5_acc {α:Type} {P:α→Prop} {L:Nat}:∀ {l m:List SV} {acc:List (Nat×Rn)} {k:List (Nat×Rn)→α},(∀ acc,P (k acc))→P (pairMs5 L l m acc k)
 | x::l,y::m,acc,k,h=>by
  simp only [pairMs5,fR_eq]
  exact pairMs5_acc (l:=l) h
 | [],m,acc,k,h=>by simp only [pairMs5]; exact h acc
 | x::l,[],acc,k,h=>by simp only [pairMs5]; exact h acc
theorem mHeap5_acc {α:Type} {P:α→Prop} {L:Nat} {b:SE.St}:∀ {l:List (Nat×Blk)} {acc:List (Nat×Rn)} {k:List (Nat×Rn)→α},(∀ acc,P (k acc))→P (mHeap5 L b l acc k)
 | [],acc,k,h=>by simp only [mHeap5]; exact h acc
 | (i,.cells e cs)::l,acc,k,h=>by
  simp only [mHeap5]
  split
  ·exact pairMs5_acc fun acc=>mHeap5_acc h
  ·exact mHeap5_acc h
 | (i,.row ..)::l,acc,k,h=>by simp only [mHeap5]; exact mHeap5_acc h
 | (i,.map ..)::l,acc,k,h=>by simp only [mHeap5]; exact mHeap5_acc h
 | (i,.opq)::l,acc,k,h=>by simp only [mHeap5]; exact mHeap5_acc h
 | (i,.ro ..)::l,acc,k,h=>by simp only [mHeap5]; exact mHeap5_acc h
 | (i,.res ..)::l,acc,k,h=>by simp only [mHeap5]; exact mHeap5_acc h
theorem mSls5_acc {α:Type} {P:α→Prop} {L:Nat} {b:SE.St}:∀ {l:List (Nat×SlI)} {acc:List (Nat×Rn)} {k:List (Nat×Rn)→α},(∀ acc,P (k acc))→P (mSls5 L b l acc k)
 | [],acc,k,h=>by simp only [mSls5]; exact h acc
 | (i,.own c n args)::l,acc,k,h=>by
  simp only [mSls5]
  split
  ·simp only [fR_eq]
   exact pairMs5_acc fun acc=>mSls5_acc h
  ·exact mSls5_acc h
 | (i,.bytes ..)::l,acc,k,h=>by simp only [mSls5]; exact mSls5_acc h
 | (i,.row c n)::l,acc,k,h=>by
  simp only [mSls5]
  split
  ·simp only [fR_eq]
   exact mSls5_acc h
  ·exact mSls5_acc h
theorem mRow5_acc {α:Type} {P:α→Prop} {L:Nat} {b:SE.St}:∀ {l:List (Nat×Blk)} {acc:List (Nat×Rn)} {k:List (Nat×Rn)→α},(∀ acc,P (k acc))→P (mRow5 L b l acc k)
 | [],acc,k,h=>by simp only [mRow5]; exact h acc
 | (i,.row e sz sid cs)::l,acc,k,h=>by
  simp only [mRow5]
  split
  ·exact pairMs5_acc fun acc=>mRow5_acc h
  ·exact mRow5_acc h
 | (i,.cells ..)::l,acc,k,h=>by simp only [mRow5]; exact mRow5_acc h
 | (i,.map ..)::l,acc,k,h=>by simp only [mRow5]; exact mRow5_acc h
 | (i,.opq)::l,acc,k,h=>by simp only [mRow5]; exact mRow5_acc h
 | (i,.ro ..)::l,acc,k,h=>by simp only [mRow5]; exact mRow5_acc h
 | (i,.res ..)::l,acc,k,h=>by simp only [mRow5]; exact mRow5_acc h
theorem pairMv5_acc {α:Type} {P:α→Prop} {L:Nat} {x y:SV} {acc:List (Nat×Rn)} {k:List (Nat×Rn)→α} (h:∀ acc,P (k acc)):P (pairMv5 L x y acc k):=by
 unfold pairMv5
 split
 ·exact pairMs5_acc h
 ·exact pairMs5_acc h
 ·exact h _
theorem isCase_ok {L:Nat} (hgl:GlOk X) (hZ:FzOk X zT) {named:List (Nat×Nat)} {p o:SV×SE.St} (h:isCase L named p o=true) {x:Value} (hx:R E o.1 x) (g:G X own0 w0 E o.2 w) :
  ∃ E',E.le E'∧R E' p.1 x∧G X own0 w0 E' p.2 w:=by
 unfold isCase at h
 obtain ⟨E1,hle,g1⟩:=nameCells_ok named g
 have:∀ b:Bool,(∃ acc,b=caseZ p.1 p.2 (o.1,nameCells o.2 named) ⟨L,acc⟩)→b=true→∃ E',E.le E'∧R E' p.1 x∧G X own0 w0 E' p.2 w:=by
  rintro b ⟨acc,e⟩ hb
  rw [e] at hb
  obtain ⟨k1,k2,k3⟩:=caseZ_ok hgl hZ hb (hx.mono hle) g1
  exact ⟨_,Env.le_trans hle k1,k2,k3⟩
 refine this _ ?_ h
 let Q:Bool→Prop:=fun r=>∃ acc,r=caseZ p.1 p.2 (o.1,nameCells o.2 named) ⟨L,acc⟩
 exact pairMv5_acc (P:=Q) fun acc=>mHeap5_acc (P:=Q) fun acc=>mSls5_acc (P:=Q) fun acc=>mRow5_acc (P:=Q) fun acc=>⟨acc,rfl⟩
theorem anyCase_ok {L:Nat} (hgl:GlOk X) (hZ:FzOk X zT) {named:List (Nat×Nat)} {o:SV×SE.St}:∀ {outs:Out},anyCase L named o outs=true→∀ {x:Value},R E o.1 x→G X own0 w0 E o.2 w →
  ∃ p∈outs,∃ E',E.le E'∧R E' p.1 x∧G X own0 w0 E' p.2 w
 | p::l,h,x,hx,g=>by
  simp only [anyCase] at h
  cases hb:isCase L named p o with
  | true =>
   obtain ⟨E',h1,h2,h3⟩:=isCase_ok hgl hZ hb hx g
   exact ⟨p,List.mem_cons_self,E',h1,h2,h3⟩
  | false =>
   rw [hb] at h
   obtain ⟨q,hq,r⟩:=anyCase_ok hgl hZ h hx g
   exact ⟨q,List.mem_cons_of_mem _ hq,r⟩
theorem allCase_ok {L:Nat} {named:List (Nat×Nat)} {outs:Out}:∀ {l:Out},allCase L named outs l=true→∀ o∈l,anyCase L named o outs=true
 | x::l,h,o,ho=>by
  simp only [allCase,Bool.and_eq_true] at h
  rcases List.mem_cons.1 ho with rfl | ho
  ·exact h.1
  ·exact allCase_ok h.2 o ho
theorem nodupO_ok:∀ {l:Out},nodupO l=true→∀ o∈l,nodupSt o.2=true
 | x::l,h,o,ho=>by
  simp only [nodupO,Bool.and_eq_true] at h
  rcases List.mem_cons.1 ho with rfl | ho
  ·exact h.1
  ·exact nodupO_ok h.2 o ho
theorem sm_run (hT:TabOk X) (hP:PkOk X) (hR:RkOk X) (hK:∀ own0 w0,KOk X own0 w0) (hgl:GlOk X) (hZ:FzOk X zT) {L fuel gi:Nat} {m:Sm} {named:List (Nat×Nat)}
  (e:runFits L named m.outs (run X.T fuel gi m.args m.S)=true):SmOk X gi m:=by
 cases hrun:run X.T fuel gi m.args m.S with
 | none=>rw [hrun] at e; cases e
 | some l =>
  rw [hrun] at e
  simp only [runFits,Bool.and_eq_true] at e
  refine ⟨nodupO_ok e.1,fun own0 w0 E w vals g hr=>?_⟩
  refine (run_ok hT hP hR (hK own0 w0) fuel hrun g hr).mono fun e' w' he=>?_
  obtain ⟨o,ho,E',x,h1,h2,h3,h4⟩:=he
  obtain ⟨p,hp,E2,k1,k2,k3⟩:=anyCase_ok hgl hZ (allCase_ok e.2 o ho) h3 h4
  exact ⟨p,hp,E2,x,Env.le_trans h1 k1,h2,k2,k3⟩
theorem SmOk.tbl (t:Tbl X Y) {gi:Nat} {m:Sm} (h:SmOk X gi m):SmOk Y gi m:=by
 refine ⟨h.1,fun own0 w0 E w vals g hr=>?_⟩
 rw [t.P]
 exact (h.2 own0 w0 E w vals (g.tbl t.symm) hr).mono fun e w' he=>he.tbl t
theorem smL (hp:PolFit pc) (hK:KAll (Xc pc) ks) {L fuel gi:Nat} {m:Sm} {named:List (Nat×Nat)} (e:runFits L named m.outs (run (TL ks jn nb) fuel gi m.args m.S)=true):SmOk (Xc pc) gi m :=
 (sm_run (X:=XL pc ks jn nb) tabL pkL rkL (fun own0 w0=>kok (hK.tbl tblL) rfl own0 w0) (fun gg cs h=>glc_ok (pc:=pc) gg cs h)
  (fun own0 w0 E st w g k svs h=>fzc hp own0 w0 E st w (g.tbl tblL.symm) k svs h) e).tbl tblL.symm
theorem kSmL (hp:PolFit pc) {gi:Nat} {m:Sm} (h:SmOk (Xc pc) gi m) (named:List (Nat×Nat)) (keep:Bool):KOne (Xc pc) gi (kSm m named keep) :=
 kSm_ok (fun gg cs h=>glc_ok (pc:=pc) gg cs h) (fzc hp) h named keep
end SE
end
section
open Go.RowKit
theorem shr_some (k k2:IntKind) (x y:Int) (h:0≤y):∃ v:Int,∀ w,(Op.shift BinOp.shr k x k2 y).run Tryz.prog w=.ok (.int k v) w :=
 ⟨_,fun w=>by unfold Op.shift; rw [if_neg (by omega)]; rfl⟩
theorem rot_2 (x:Int) (w:World):Calls Tryz.prog 221 #[.int .u32 x,.int .i64 (-2)] w fun e w'=>e=.returned (.int .u32 (bits BinOp.or .u32 (x*1073741824 % 4294967296) (x / 4)))∧w'=w:=by
 obtain ⟨a,ha⟩:=shl_some .u32 .u64 x 30 (by omega)
 obtain ⟨b,hb⟩:=shr_some .u32 .u64 x 2 (by omega)
 have hs:bits BinOp.and IntKind.u64 (IntKind.u64.wrap (-2)) 31=30:=by decide +kernel
 have hw:IntKind.u64.wrap (32 - 30)=2:=by decide +kernel
 go_enter Tryz.func221,Tryz.ntmps221
 go_wp2
 go_ret
 exact ⟨rfl,rfl⟩
theorem right_2 (x:Int) (w:World):Calls Tryz.prog 186 #[.int .u32 x,.int .i64 2] w fun e w'=>e=.returned (.int .u32 (bits BinOp.or .u32 (x*1073741824 % 4294967296) (x / 4)))∧w'=w:=by
 have H:=Lib.hid (rot_2 x w)
 go_enter Tryz.func186,Tryz.ntmps186
 go_wp2_with (go_at_call 221; (with_reducible refine H.out.mono ?_); rintro e' w2 ⟨rfl,h2⟩; cases h2)
 go_ret
 exact ⟨rfl,rfl⟩
theorem rot_6 (x:Int) (w:World):Calls Tryz.prog 221 #[.int .u32 x,.int .i64 (-6)] w fun e w'=>e=.returned (.int .u32 (bits BinOp.or .u32 (x*67108864 % 4294967296) (x / 64)))∧w'=w:=by
 obtain ⟨a,ha⟩:=shl_some .u32 .u64 x 26 (by omega)
 obtain ⟨b,hb⟩:=shr_some .u32 .u64 x 6 (by omega)
 have hs:bits BinOp.and IntKind.u64 (IntKind.u64.wrap (-6)) 31=26:=by decide +kernel
 have hw:IntKind.u64.wrap (32 - 26)=6:=by decide +kernel
 go_enter Tryz.func221,Tryz.ntmps221
 go_wp2
 go_ret
 exact ⟨rfl,rfl⟩
theorem right_6 (x:Int) (w:World):Calls Tryz.prog 186 #[.int .u32 x,.int .i64 6] w fun e w'=>e=.returned (.int .u32 (bits BinOp.or .u32 (x*67108864 % 4294967296) (x / 64)))∧w'=w:=by
 have H:=Lib.hid (rot_6 x w)
 go_enter Tryz.func186,Tryz.ntmps186
 go_wp2_with (go_at_call 221; (with_reducible refine H.out.mono ?_); rintro e' w2 ⟨rfl,h2⟩; cases h2)
 go_ret
 exact ⟨rfl,rfl⟩
theorem rot_7 (x:Int) (w:World):Calls Tryz.prog 221 #[.int .u32 x,.int .i64 (-7)] w fun e w'=>e=.returned (.int .u32 (bits BinOp.or .u32 (x*33554432 % 4294967296) (x / 128)))∧w'=w:=by
 obtain ⟨a,ha⟩:=shl_some .u32 .u64 x 25 (by omega)
 obtain ⟨b,hb⟩:=shr_some .u32 .u64 x 7 (by omega)
 have hs:bits BinOp.and IntKind.u64 (IntKind.u64.wrap (-7)) 31=25:=by decide +kernel
 have hw:IntKind.u64.wrap (32 - 25)=7:=by decide +kernel
 go_enter Tryz.func221,Tryz.ntmps221
 go_wp2
 go_ret
 exact ⟨rfl,rfl⟩
theorem right_7 (x:Int) (w:World):Calls Tryz.prog 186 #[.int .u32 x,.int .i64 7] w fun e w'=>e=.returned (.int .u32 (bits BinOp.or .u32 (x*33554432 % 4294967296) (x / 128)))∧w'=w:=by
 have H:=Lib.hid (rot_7 x w)
 go_enter Tryz.func186,Tryz.ntmps186
 go_wp2_with (go_at_call 221; (with_reducible refine H.out.mono ?_); rintro e' w2 ⟨rfl,h2⟩; cases h2)
 go_ret
 exact ⟨rfl,rfl⟩
theorem rot_11 (x:Int) (w:World):Calls Tryz.prog 221 #[.int .u32 x,.int .i64 (-11)] w fun e w'=>e=.returned (.int .u32 (bits BinOp.or .u32 (x*2097152 % 4294967296) (x / 2048)))∧w'=w:=by
 obtain ⟨a,ha⟩:=shl_some .u32 .u64 x 21 (by omega)
 obtain ⟨b,hb⟩:=shr_some .u32 .u64 x 11 (by omega)
 have hs:bits BinOp.and IntKind.u64 (IntKind.u64.wrap (-11)) 31=21:=by decide +kernel
 have hw:IntKind.u64.wrap (32 - 21)=11:=by decide +kernel
 go_enter Tryz.func221,Tryz.ntmps221
 go_wp2
 go_ret
 exact ⟨rfl,rfl⟩
theorem right_11 (x:Int) (w:World):Calls Tryz.prog 186 #[.int .u32 x,.int .i64 11] w fun e w'=>e=.returned (.int .u32 (bits BinOp.or .u32 (x*2097152 % 4294967296) (x / 2048)))∧w'=w:=by
 have H:=Lib.hid (rot_11 x w)
 go_enter Tryz.func186,Tryz.ntmps186
 go_wp2_with (go_at_call 221; (with_reducible refine H.out.mono ?_); rintro e' w2 ⟨rfl,h2⟩; cases h2)
 go_ret
 exact ⟨rfl,rfl⟩
theorem rot_13 (x:Int) (w:World):Calls Tryz.prog 221 #[.int .u32 x,.int .i64 (-13)] w fun e w'=>e=.returned (.int .u32 (bits BinOp.or .u32 (x*524288 % 4294967296) (x / 8192)))∧w'=w:=by
 obtain ⟨a,ha⟩:=shl_some .u32 .u64 x 19 (by omega)
 obtain ⟨b,hb⟩:=shr_some .u32 .u64 x 13 (by omega)
 have hs:bits BinOp.and IntKind.u64 (IntKind.u64.wrap (-13)) 31=19:=by decide +kernel
 have hw:IntKind.u64.wrap (32 - 19)=13:=by decide +kernel
 go_enter Tryz.func221,Tryz.ntmps221
 go_wp2
 go_ret
 exact ⟨rfl,rfl⟩
theorem right_13 (x:Int) (w:World):Calls Tryz.prog 186 #[.int .u32 x,.int .i64 13] w fun e w'=>e=.returned (.int .u32 (bits BinOp.or .u32 (x*524288 % 4294967296) (x / 8192)))∧w'=w:=by
 have H:=Lib.hid (rot_13 x w)
 go_enter Tryz.func186,Tryz.ntmps186
 go_wp2_with (go_at_call 221; (with_reducible refine H.out.mono ?_); rintro e' w2 ⟨rfl,h2⟩; cases h2)
 go_ret
 exact ⟨rfl,rfl⟩
theorem rot_17 (x:Int) (w:World):Calls Tryz.prog 221 #[.int .u32 x,.int .i64 (-17)] w fun e w'=>e=.returned (.int .u32 (bits BinOp.or .u32 (x*32768 % 4294967296) (x / 131072)))∧w'=w:=by
 obtain ⟨a,ha⟩:=shl_some .u32 .u64 x 15 (by omega)
 obtain ⟨b,hb⟩:=shr_some .u32 .u64 x 17 (by omega)
 have hs:bits BinOp.and IntKind.u64 (IntKind.u64.wrap (-17)) 31=15:=by decide +kernel
 have hw:IntKind.u64.wrap (32 - 15)=17:=by decide +kernel
 go_enter Tryz.func221,Tryz.ntmps221
 go_wp2
 go_ret
 exact ⟨rfl,rfl⟩
theorem right_17 (x:Int) (w:World):Calls Tryz.prog 186 #[.int .u32 x,.int .i64 17] w fun e w'=>e=.returned (.int .u32 (bits BinOp.or .u32 (x*32768 % 4294967296) (x / 131072)))∧w'=w:=by
 have H:=Lib.hid (rot_17 x w)
 go_enter Tryz.func186,Tryz.ntmps186
 go_wp2_with (go_at_call 221; (with_reducible refine H.out.mono ?_); rintro e' w2 ⟨rfl,h2⟩; cases h2)
 go_ret
 exact ⟨rfl,rfl⟩
theorem rot_18 (x:Int) (w:World):Calls Tryz.prog 221 #[.int .u32 x,.int .i64 (-18)] w fun e w'=>e=.returned (.int .u32 (bits BinOp.or .u32 (x*16384 % 4294967296) (x / 262144)))∧w'=w:=by
 obtain ⟨a,ha⟩:=shl_some .u32 .u64 x 14 (by omega)
 obtain ⟨b,hb⟩:=shr_some .u32 .u64 x 18 (by omega)
 have hs:bits BinOp.and IntKind.u64 (IntKind.u64.wrap (-18)) 31=14:=by decide +kernel
 have hw:IntKind.u64.wrap (32 - 14)=18:=by decide +kernel
 go_enter Tryz.func221,Tryz.ntmps221
 go_wp2
 go_ret
 exact ⟨rfl,rfl⟩
theorem right_18 (x:Int) (w:World):Calls Tryz.prog 186 #[.int .u32 x,.int .i64 18] w fun e w'=>e=.returned (.int .u32 (bits BinOp.or .u32 (x*16384 % 4294967296) (x / 262144)))∧w'=w:=by
 have H:=Lib.hid (rot_18 x w)
 go_enter Tryz.func186,Tryz.ntmps186
 go_wp2_with (go_at_call 221; (with_reducible refine H.out.mono ?_); rintro e' w2 ⟨rfl,h2⟩; cases h2)
 go_ret
 exact ⟨rfl,rfl⟩
theorem rot_19 (x:Int) (w:World):Calls Tryz.prog 221 #[.int .u32 x,.int .i64 (-19)] w fun e w'=>e=.returned (.int .u32 (bits BinOp.or .u32 (x*8192 % 4294967296) (x / 524288)))∧w'=w:=by
 obtain ⟨a,ha⟩:=shl_some .u32 .u64 x 13 (by omega)
 obtain ⟨b,hb⟩:=shr_some .u32 .u64 x 19 (by omega)
 have hs:bits BinOp.and IntKind.u64 (IntKind.u64.wrap (-19)) 31=13:=by decide +kernel
 have hw:IntKind.u64.wrap (32 - 13)=19:=by decide +kernel
 go_enter Tryz.func221,Tryz.ntmps221
 go_wp2
 go_ret
 exact ⟨rfl,rfl⟩
theorem right_19 (x:Int) (w:World):Calls Tryz.prog 186 #[.int .u32 x,.int .i64 19] w fun e w'=>e=.returned (.int .u32 (bits BinOp.or .u32 (x*8192 % 4294967296) (x / 524288)))∧w'=w:=by
 have H:=Lib.hid (rot_19 x w)
 go_enter Tryz.func186,Tryz.ntmps186
 go_wp2_with (go_at_call 221; (with_reducible refine H.out.mono ?_); rintro e' w2 ⟨rfl,h2⟩; cases h2)
 go_ret
 exact ⟨rfl,rfl⟩
theorem rot_22 (x:Int) (w:World):Calls Tryz.prog 221 #[.int .u32 x,.int .i64 (-22)] w fun e w'=>e=.returned (.int .u32 (bits BinOp.or .u32 (x*1024 % 4294967296) (x / 4194304)))∧w'=w:=by
 obtain ⟨a,ha⟩:=shl_some .u32 .u64 x 10 (by omega)
 obtain ⟨b,hb⟩:=shr_some .u32 .u64 x 22 (by omega)
 have hs:bits BinOp.and IntKind.u64 (IntKind.u64.wrap (-22)) 31=10:=by decide +kernel
 have hw:IntKind.u64.wrap (32 - 10)=22:=by decide +kernel
 go_enter Tryz.func221,Tryz.ntmps221
 go_wp2
 go_ret
 exact ⟨rfl,rfl⟩
theorem right_22 (x:Int) (w:World):Calls Tryz.prog 186 #[.int .u32 x,.int .i64 22] w fun e w'=>e=.returned (.int .u32 (bits BinOp.or .u32 (x*1024 % 4294967296) (x / 4194304)))∧w'=w:=by
 have H:=Lib.hid (rot_22 x w)
 go_enter Tryz.func186,Tryz.ntmps186
 go_wp2_with (go_at_call 221; (with_reducible refine H.out.mono ?_); rintro e' w2 ⟨rfl,h2⟩; cases h2)
 go_ret
 exact ⟨rfl,rfl⟩
theorem rot_25 (x:Int) (w:World):Calls Tryz.prog 221 #[.int .u32 x,.int .i64 (-25)] w fun e w'=>e=.returned (.int .u32 (bits BinOp.or .u32 (x*128 % 4294967296) (x / 33554432)))∧w'=w:=by
 obtain ⟨a,ha⟩:=shl_some .u32 .u64 x 7 (by omega)
 obtain ⟨b,hb⟩:=shr_some .u32 .u64 x 25 (by omega)
 have hs:bits BinOp.and IntKind.u64 (IntKind.u64.wrap (-25)) 31=7:=by decide +kernel
 have hw:IntKind.u64.wrap (32 - 7)=25:=by decide +kernel
 go_enter Tryz.func221,Tryz.ntmps221
 go_wp2
 go_ret
 exact ⟨rfl,rfl⟩
theorem right_25 (x:Int) (w:World):Calls Tryz.prog 186 #[.int .u32 x,.int .i64 25] w fun e w'=>e=.returned (.int .u32 (bits BinOp.or .u32 (x*128 % 4294967296) (x / 33554432)))∧w'=w:=by
 have H:=Lib.hid (rot_25 x w)
 go_enter Tryz.func186,Tryz.ntmps186
 go_wp2_with (go_at_call 221; (with_reducible refine H.out.mono ?_); rintro e' w2 ⟨rfl,h2⟩; cases h2)
 go_ret
 exact ⟨rfl,rfl⟩
end
section
namespace SE
open Go.RowKit
variable {X:Px} {own0:Nat→Prop} {w0 w:World} {E:Env} {st:SE.St}
def GlW (w:World):Prop:=∀ g cs,glT g=some cs→g<w.heap.size∧∃ vs e fr,w.heap[g]?=some (.cells vs e fr)∧RL (fun _=>none) cs vs.toList
def emptySt:SE.St:=⟨[],[],[],0,[]⟩
theorem g_empty {w:World} (h:GlW w) (hX:X.T.gl=glT):G X (fun _=>False) w (fun _=>none) emptySt w:=by
 refine ⟨Nat.le_refl _,rfl,rfl,rfl,fun n _ _=>rfl,fun id blk hl=>(by simp [emptySt,lk] at hl),fun id id' b b' n hl=>(by simp [emptySt,lk] at hl),fun id lo hi hl=>(by simp [emptySt,lk] at hl),fun id i hl=>(by simp [emptySt,lk] at hl),fun id _=>rfl,fun g cs hg=>?_,fun x hx=>(by cases hx)⟩
 rw [hX] at hg
 obtain ⟨h1,vs,e,fr,h2,h3⟩:=h g cs hg
 exact ⟨h1,fun id blk hl=>(by simp [emptySt,lk] at hl),vs,e,fr,h2,h3⟩
theorem glW_of (g:G X own0 w0 E st w) (hX:X.T.gl=glT):GlW w:=by
 intro gg cs h
 obtain ⟨h1,_,vs,e,fr,h2,h3⟩:=g.gl gg cs (by rw [hX]; exact h)
 exact ⟨h1,vs,e,fr,h2,clL_ok (glT_cl gg cs h) h3⟩
theorem below_of (g:G X (fun _=>False) w E st w0):Below w.heap.size w w0 :=
 ⟨g.os,g.tape,g.output,g.size,fun k hk=>g.frame k hk (fun h=>h)⟩
def allIs (v:SV):Out→Bool
 | []=>true
 | o::l=>SV.beq o.1 v&&allIs v l
theorem allIs_ok {v:SV}:∀ {l:Out},allIs v l=true→∀ o∈l,o.1=v
 | [],h,o,ho=>by cases ho
 | x::l,h,o,ho=>by
  simp only [allIs,Bool.and_eq_true] at h
  rcases List.mem_cons.1 ho with rfl | ho
  ·exact SV.beq_eq _ _ h.1
  ·exact allIs_ok h.2 o ho
def runIs (v:SV):Option Out→Bool
 | some l=>allIs v l
 | none=>false
theorem pure_run (hT:TabOk X) (hP:PkOk X) (hR:RkOk X) (hK:∀ w,KOk X (fun _=>False) w) (hX:X.T.gl=glT) {fuel gi:Nat} {args:List SV} {l:List SV} (hcl:clL l=true)
  (e:runIs (.agg l) (run X.T fuel gi args emptySt)=true) {w:World} (hw:GlW w) {vals:Array Value} (hr:RL (fun _=>none) args vals.toList) :
  Calls X.P gi vals w fun e w'=>∃ cs:Array Value,e=.returned (.agg cs)∧RL (fun _=>none) l cs.toList∧Below w.heap.size w w':=by
 cases hrun:run X.T fuel gi args emptySt with
 | none=>rw [hrun] at e; cases e
 | some out =>
  rw [hrun] at e
  refine (run_ok hT hP hR (hK w) fuel hrun (g_empty hw hX) hr).mono fun e' w' he=>?_
  obtain ⟨o,ho,E',x,h1,rfl,h3,h4⟩:=he
  have:=allIs_ok e o ho
  rw [this] at h3
  simp only [R] at h3
  obtain ⟨cs,rfl,hl⟩:=h3
  exact ⟨cs,rfl,clL_ok hcl hl,below_of h4⟩
end SE
end
section
namespace SE
open Go.RowKit
def isTurn (n:Int):Bool:=decide (n=2)||(decide (n=6)||(decide (n=7)||(decide (n=11)||(decide (n=13)||(decide (n=17)||(decide (n=18)||(decide (n=19)||(decide (n=22)||decide (n=25)))))))))
def pkRight (args:List SV):Option SV :=
 match args with
 | [.int .u32 _,.int .i64 (.r n m)]=>bif decide (n=m)&&isTurn n then some u32 else none
 | _=>none
noncomputable def TW:Tb:={ TC with k:=fun _ _ _=>none,pkB:=fun g=>Nat.beq g 186,pk:=fun _ a _=>pkRight a,rkB:=fun _=>false,rk:=fun _ _ _=>none,pre:=fun _ _ _=>[],split:=fun _=>none,join:=fun _=>false,nameB:=false,app:=fun _ _ _ _=>none,emp:=fun _ _=>false }
noncomputable def Xw (k:Nat→List SV→SE.St→Option (Option Out)):Px:=⟨Tryz.prog,{ TW with k:=k },fun _ _=>False,fun _ _ _=>False⟩
variable {k:Nat→List SV→SE.St→Option (Option Out)} {own0:Nat→Prop} {w0 w:World} {E:Env} {st:SE.St}
theorem tabw:TabOk (Xw k):=tab_ok rfl rfl rfl (fun t nm r h=>by simp [Xw,TW,TC] at h) (fun nm args h=>by simp [Xw,TW] at h) (fun gg cs h E E' vs hr=>clL_ok (glT_cl gg cs h) hr) (fun t h=>by simp [Xw,TW,TC] at h)
theorem rkw:RkOk (Xw k) where
 app:=fun nm args new st args' h=>by simp [Xw,TW] at h
 fn:=fun g h=>by simp [Xw,TW] at h
 ok:=fun g args st v h=>by simp [Xw,TW] at h
theorem pkw:PkOk (Xw k) where
 fn:=fun g h=>by
  simp only [Xw,TW] at h
  have:=nbeq h
  subst this
  exact ⟨Tryz.f186,rfl⟩
 ok:=fun g args st v hg h own0 w0 E w g' vals hr=>by
  simp only [Xw,TW] at hg h
  have:=nbeq hg
  subst this
  unfold pkRight at h
  split at h
  ·rename_i i n m
   simp only [cond_eq_ite,Bool.and_eq_true,decide_eq_true_eq] at h
   split at h
   ·rename_i hc
    cases h
    obtain ⟨x,y,e,hx,hy⟩:=RL2 hr
    rw [arr_of e]
    simp only [R,SIok] at hx hy
    obtain ⟨a,_,rfl⟩:=hx
    obtain ⟨b,hb,rfl⟩:=hy
    have:b=n:=by omega
    subst this
    have fin:∀ z w1 w2:Int,z=bits BinOp.or .u32 w1 w2→R E u32 (.int .u32 z):=fun z w1 w2 hz=>by
     simp only [u32,R,SIok]
     refine ⟨z,?_,rfl⟩
     rw [hz]
     unfold bits
     exact wrap_range .u32 _
    have h2:=hc.2
    simp only [isTurn,Bool.or_eq_true,decide_eq_true_eq] at h2
    rcases h2 with rfl | rfl | rfl | rfl | rfl | rfl | rfl | rfl | rfl | rfl
    ·exact ⟨_,fin _ _ _ rfl,fun w=>right_2 a w⟩
    ·exact ⟨_,fin _ _ _ rfl,fun w=>right_6 a w⟩
    ·exact ⟨_,fin _ _ _ rfl,fun w=>right_7 a w⟩
    ·exact ⟨_,fin _ _ _ rfl,fun w=>right_11 a w⟩
    ·exact ⟨_,fin _ _ _ rfl,fun w=>right_13 a w⟩
    ·exact ⟨_,fin _ _ _ rfl,fun w=>right_17 a w⟩
    ·exact ⟨_,fin _ _ _ rfl,fun w=>right_18 a w⟩
    ·exact ⟨_,fin _ _ _ rfl,fun w=>right_19 a w⟩
    ·exact ⟨_,fin _ _ _ rfl,fun w=>right_22 a w⟩
    ·exact ⟨_,fin _ _ _ rfl,fun w=>right_25 a w⟩
   ·cases h
  ·cases h
theorem words_run:runIs (.agg (rep 64 u32)) (run (Xw fun _ _ _=>none).T 60 185 [bytesS 64] emptySt)=true:=by decide +kernel
theorem words_any {w:World} (hw:GlW w) {vals:Array Value} (hr:RL (fun _=>none) [bytesS 64] vals.toList) :
  Calls Tryz.prog 185 vals w fun e w'=>∃ cs:Array Value,e=.returned (.agg cs)∧RL (fun _=>none) (rep 64 u32) cs.toList∧Below w.heap.size w w' :=
 pure_run (X:=Xw fun _ _ _=>none) tabw pkw rkw (fun w g args st l h=>by simp [Xw] at h) rfl rfl words_run hw hr
end SE
end
section
namespace SE
open Go.RowKit
variable {X:Px} {own0:Nat→Prop} {w0 w:World} {E:Env} {st:SE.St}
def kClosed (gi:Nat) (as_:List SV) (l:List SV) (g:Nat) (args:List SV) (st:SE.St):Option (Option Out) :=
 bif Nat.beq g gi&&SV.beqL args as_ then some (some [(.agg l,st)]) else none
theorem kClosed_ok (hX:X.T.gl=glT) {gi:Nat} {as_ l:List SV} (ha:∀ E E' vs,RL E as_ vs→RL E' as_ vs) (hl:clL l=true)
  (hc:∀ w,GlW w→∀ vals:Array Value,RL (fun _=>none) as_ vals.toList→Calls X.P gi vals w fun e w'=>∃ cs:Array Value,e=.returned (.agg cs)∧RL (fun _=>none) l cs.toList∧Below w.heap.size w w')
  {g:Nat} {args:List SV} {st:SE.St} {out:Out} (h:kClosed gi as_ l g args st=some (some out)) {E:Env} {w:World} {vals:Array Value} (hG:G X own0 w0 E st w) (hr:RL E args vals.toList):Calls X.P g vals w (Outs X own0 w0 E out):=by
 simp only [kClosed,cond_eq_ite,Bool.and_eq_true] at h
 split at h
 ·rename_i hh
  cases h
  have h1:=nbeq hh.1
  have h2:=SV.beqL_eq _ _ hh.2
  subst h1 h2
  refine (hc w (glW_of hG hX) vals (ha _ _ _ hr)).mono fun e w' he=>?_
  obtain ⟨cs,rfl,h3,h4⟩:=he
  exact ⟨_,List.mem_cons_self,E,_,Env.le_refl E,rfl,by simp only [R]; exact ⟨cs,rfl,clL_ok hl h3⟩,hG.below h4⟩
 ·cases h
theorem bytes_cl (n:Nat):clL (rep n byteCell)=true:=by
 induction n with
 | zero=>rfl
 | succ n ih=>simp only [rep,clL,ih,Bool.and_true]; rfl
theorem bytesS_cl (n:Nat):∀ E E' vs,RL E [bytesS n] vs→RL E' [bytesS n] vs:=by
 intro E E' vs h
 obtain ⟨x,rfl,hx⟩:=RL1 h
 simp only [bytesS,R] at hx
 obtain ⟨cs,rfl,hl⟩:=hx
 exact RL_cons.2 ⟨by simp only [bytesS,R]; exact ⟨cs,rfl,clL_ok (bytes_cl n) hl⟩,by simp [RL]⟩
noncomputable abbrev XB:Px:=Xw (kClosed 185 [bytesS 64] (rep 64 u32))
theorem kB_ok (w:World):KOk XB (fun _=>False) w:=fun g args st l h E w1 vals hG hr =>
 kClosed_ok (X:=XB) rfl (bytesS_cl 64) rfl (fun w hw vals hr=>words_any hw hr) h hG hr
theorem block_run:runIs (.agg (rep 8 u32)) (run XB.T 60 142 [.agg (rep 8 u32),bytesS 64] emptySt)=true:=by decide +kernel
theorem block_any {w:World} (hw:GlW w) {vals:Array Value} (hr:RL (fun _=>none) [.agg (rep 8 u32),bytesS 64] vals.toList) :
  Calls Tryz.prog 142 vals w fun e w'=>∃ cs:Array Value,e=.returned (.agg cs)∧RL (fun _=>none) (rep 8 u32) cs.toList∧Below w.heap.size w w' :=
 pure_run (X:=XB) tabw pkw rkw kB_ok rfl rfl block_run hw hr
end SE
end
section
namespace SE
open Go.RowKit
variable {X:Px} {w:World}
def rowSt (n:Nat):SE.St:=⟨[],[],[(1,.bytes (.r (Int.ofNat n) (Int.ofNat n)))],2,[]⟩
def rowE (base:Option Addr) (ln cap:Nat):Env:=fun id=>if id=1 then some (.sl base ln cap) else none
theorem g_row (h:GlW w) (hX:X.T.gl=glT) {base:Option Addr} {ln cap:Nat} (hc:ln≤cap) (hb:ByteRow w base ln) (hs:∀ x,base=some x→x.block<w.heap.size) :
  G X (fun _=>False) w (rowE base ln cap) (rowSt ln) w:=by
 refine ⟨Nat.le_refl _,rfl,rfl,rfl,fun n _ _=>rfl,fun id blk hl=>(by simp [rowSt,lk] at hl),fun id id' b b' n hl=>(by simp [rowSt,lk] at hl),fun id lo hi hl=>(by simp [rowSt,lk] at hl),fun id i hl=>?_,fun id hid=>?_,fun g cs hg=>?_,fun x hx=>(by cases hx)⟩
 ·simp only [rowSt] at hl
  rw [lk_cons] at hl
  split at hl
  ·rename_i he
   subst he
   cases hl
   exact ⟨base,ln,cap,by simp [rowE],by simp [SIok],hc,hb,fun x hx=>⟨hs x hx,fun bid blk hbl=>(by simp [rowSt,lk] at hbl)⟩⟩
  ·simp [lk] at hl
 ·have hid':2≤id:=hid
  simp only [rowE]
  rw [if_neg (by omega)]
 ·rw [hX] at hg
  obtain ⟨h1,vs,e,fr,h2,h3⟩:=h g cs hg
  exact ⟨h1,fun id blk hl=>(by simp [rowSt,lk] at hl),vs,e,fr,h2,clL_ok (glT_cl g cs hg) h3⟩
end SE
end
section
namespace SE
open Go.RowKit
variable {X:Px} {own0:Nat→Prop} {w0 w:World} {E:Env} {st:SE.St}
def noE:Env:=fun _=>none
theorem envOf_nil (E:Env):envOf ⟨0,[]⟩ E=noE:=by
 funext id
 simp only [envOf,rnf0,lk,noE]
def kCl (as_:List SV) (l:List SV) (args:List SV) (st:SE.St):Option Out :=
 bif instA st ⟨0,[]⟩ as_ args then some [(.agg l,st)] else none
def ClOk (gi:Nat) (as_ l:List SV):Prop :=
 ∀ w,GlW w→∀ vals:Array Value,RL noE as_ vals.toList→Calls Tryz.prog gi vals w fun e w'=>∃ cs:Array Value,e=.returned (.agg cs)∧RL noE l cs.toList∧Below w.heap.size w w'
theorem kCl_ok (hP:X.P=Tryz.prog) (hX:X.T.gl=glT) {gi:Nat} {as_ l:List SV} (hl:clL l=true) (hc:ClOk gi as_ l):KOne X gi (kCl as_ l):=by
 intro own0 w0 args st out h E w vals g hr
 unfold kCl at h
 cases hb:instA st ⟨0,[]⟩ as_ args with
 | false=>rw [hb] at h; cases h
 | true =>
  rw [hb] at h
  cases h
  have h1:=instA_ok g hb hr
  rw [envOf_nil] at h1
  rw [hP]
  refine (hc w (glW_of g hX) vals h1).mono fun e w' he=>?_
  obtain ⟨cs,rfl,h3,h4⟩:=he
  exact ⟨_,List.mem_cons_self,E,_,Env.le_refl E,rfl,by simp only [R]; exact ⟨cs,rfl,clL_ok hl h3⟩,g.below h4⟩
def byteIn (st:SE.St) (v:SV):Option SI :=
 match v with
 | .nils=>some (.r 0 0)
 | .sl i=>match lk st.sls i with
  | some (.bytes l)=>some l
  | some (.row b len)=>match lk st.heap b with
   | some (.row _ sz sid cs)=>match cut 0 len cs with
    | some ds=>bif Nat.beq sid i&&(Nat.beq sz 1&&allByte ds) then some (.r (Int.ofNat len) (Int.ofNat len)) else none
    | none=>none
   | _=>none
  | _=>none
 | .slc b off len cap=>match lk st.heap b with
  | some (.cells _ cs)=>match cut off len cs with
   | some ds=>bif Nat.ble len cap&&allByte ds then some (.r (Int.ofNat len) (Int.ofNat len)) else none
   | none=>none
  | _=>none
 | _=>none
theorem byteRow_of {w:World} {n off len:Nat} {vs:Array Value} {e:Nat} {fr:Nat×Nat} (hg:w.heap[n]?=some (.cells vs e fr)) {us:List Value} (hu:AllB us) (hl:us.length=len) (he:∀ j v,us[j]?=some v→vs[off+j]?=some v) :
  ByteRow w (some ⟨n,off,none⟩) len:=by
 refine ⟨rfl,vs,e,fr,hg,fun i hi=>?_⟩
 have hlt:i<us.length:=by omega
 obtain ⟨z,z1,z2,z3⟩:=hu us[i] (List.getElem_mem hlt)
 exact ⟨z,z1,z2,he i _ (by rw [List.getElem?_eq_getElem hlt,z3])⟩
theorem cut_vals {E:Env} {off len:Nat} {cs ds:List SV} {vs:List Value} (hr:RL E cs vs) (hc:cut off len cs=some ds):∃ us,RL E ds us∧us.length=len∧∀ j v,us[j]?=some v→vs[off+j]?=some v:=by
 have h1:=RL_cut hr hc
 refine ⟨(vs.drop off).take len,h1.1,?_,fun j v hv=>?_⟩
 ·simp only [List.length_take,List.length_drop]
  rcases h1.2 with h | h
  ·omega
  ·omega
 ·rw [List.getElem?_take] at hv
  split at hv
  ·rwa [List.getElem?_drop] at hv
  ·cases hv
theorem byteIn_ok (g:G X own0 w0 E st w) {x:SV} {u:Value} {l:SI} (e:byteIn st x=some l) (h:R E x u) :
  ∃ base ln c,u=.slice base ln c∧SIok E l ln∧ln≤c∧ByteRow w base ln∧∀ p,base=some p→p.block<w.heap.size:=by
 unfold byteIn at e
 split at e
 ·cases e
  simp only [R] at h
  exact ⟨none,0,0,h,by simp [SIok],Nat.le_refl _,by simp [ByteRow],fun p hp=>by cases hp⟩
 ·rename_i i
  simp only [R] at h
  obtain ⟨base,ln,cp,hE,rfl⟩:=h
  split at e
  ·rename_i l' hl
   cases e
   obtain ⟨base',ln',cap',hE',hsi,hlc,hbr,hst⟩:=g.sls i _ hl
   rw [hE] at hE'
   cases hE'
   exact ⟨base,ln,cp,rfl,hsi,hlc,hbr,fun p hp=>(hst p hp).1⟩
  ·rename_i b len hl
   obtain ⟨n,cap,hb,hE'⟩:=g.sls i _ hl
   rw [hE] at hE'
   cases hE'
   split at e
   ·rename_i el sz sid cs hh
    split at e
    ·rename_i ds hc
     simp only [cond_eq_ite] at e
     split at e
     ·rename_i hh2
      cases e
      simp only [Bool.and_eq_true] at hh2
      have hsid:=nbeq hh2.1
      subst hsid
      rcases g.heap b _ hh with ⟨h0,_⟩ | ⟨m,hm,q1,q2,vs,len',cap',r1,r2,r3,r4,r5,r6⟩
      ·cases h0
      ·rw [hb] at hm
       cases hm
       obtain ⟨us,u1,u2,u3⟩:=cut_vals r6 hc
       refine ⟨_,ln,cp,rfl,by simp [SIok],?_,byteRow_of r1 (allByte_ok u1 hh2.2.2) u2 (fun j v hv=>?_),fun p hp=>by cases hp; exact q1⟩
       ·rw [hE] at r2
        cases r2
        exact r5
       ·have:=u3 j v hv
        rw [List.getElem?_take] at this
        split at this
        ·simpa using this
        ·cases this
     ·cases e
    ·cases e
   ·cases e
  ·cases e
 ·rename_i b off len cap
  simp only [R] at h
  obtain ⟨n,hn,rfl⟩:=h
  split at e
  ·rename_i el cs hh
   split at e
   ·rename_i ds hc
    simp only [cond_eq_ite] at e
    split at e
    ·rename_i hb
     cases e
     simp only [Bool.and_eq_true] at hb
     rcases g.heap b _ hh with ⟨h0,_⟩ | ⟨m,hm,q1,q2,vs,r1,r2⟩
     ·cases h0
     ·rw [hn] at hm
      cases hm
      obtain ⟨us,u1,u2,u3⟩:=cut_vals r2 hc
      refine ⟨_,len,cap,rfl,by simp [SIok],Nat.le_of_ble_eq_true hb.1,byteRow_of r1 (allByte_ok u1 hb.2) u2 (fun j v hv=>by simpa using u3 j v hv),fun p hp=>by cases hp; exact q1⟩
    ·cases e
   ·cases e
  ·cases e
 ·cases e
end SE
end
section
namespace SE
open Go.RowKit
set_option maxHeartbeats 0
variable {X:Px} {own0:Nat→Prop} {w0 w:World} {E:Env} {st:SE.St}
theorem block_cl:ClOk 142 [.agg (rep 8 u32),bytesS 64] (rep 8 u32):=fun w hw vals hr=>block_any hw hr
noncomputable abbrev XS:Px:=Xw (kL [(142,kCl [.agg (rep 8 u32),bytesS 64] (rep 8 u32))])
theorem kS_ok (w:World):KOk XS (fun _=>False) w:=kok (X:=XS) (ks:=[(142,kCl [.agg (rep 8 u32),bytesS 64] (rep 8 u32))]) ⟨kCl_ok rfl rfl rfl block_cl,trivial⟩ rfl _ w
noncomputable def shaR (n:Nat):Bool:=runIs (.agg (rep 32 byteCell)) (run XS.T 60 97 [.sl 1] (rowSt n))
def allN (f:Nat→Bool):Nat→Nat→Bool
 | _,0=>true
 | n,k+1=>f n&&fN (n+1) fun n=>allN f n k
theorem allN_ok {f:Nat→Bool}:∀ {n k:Nat},allN f n k=true→∀ m,n≤m→m<n+k→f m=true
 | n,0,h,m,h1,h2=>by omega
 | n,k+1,h,m,h1,h2=>by
  simp only [allN,fN_eq,Bool.and_eq_true] at h
  by_cases e:m=n
  ·rw [e]; exact h.1
  ·exact allN_ok h.2 m (by omega) (by omega)
theorem sums_42:shaR 42=true:=by decide +kernel
theorem sums_66:allN shaR 66 9=true:=by decide +kernel
theorem sums_75:allN shaR 75 8=true:=by decide +kernel
theorem sums_83:allN shaR 83 8=true:=by decide +kernel
theorem sums_96:shaR 96=true:=by decide +kernel
def shaLen (n:Nat):Bool:=Nat.beq n 42||(Nat.beq n 96||(Nat.ble 66 n&&Nat.ble n 90))
theorem shaLen_ok {n:Nat} (h:shaLen n=true):shaR n=true:=by
 simp only [shaLen,Bool.or_eq_true,Bool.and_eq_true] at h
 rcases h with h | h | ⟨h1,h2⟩
 ·rw [nbeq h]; exact sums_42
 ·rw [nbeq h]; exact sums_96
 ·have h1:=Nat.le_of_ble_eq_true h1
  have h2:=Nat.le_of_ble_eq_true h2
  by_cases a:n<75
  ·exact allN_ok sums_66 n h1 (by omega)
  ·by_cases b:n<83
   ·exact allN_ok sums_75 n (by omega) (by omega)
   ·exact allN_ok sums_83 n (by omega) (by omega)
theorem sum_any {w:World} (hw:GlW w) {base:Option Addr} {ln cap:Nat} (hl:shaLen ln=true) (hc:ln≤cap) (hb:ByteRow w base ln) (hs:∀ x,base=some x→x.block<w.heap.size) :
  Calls Tryz.prog 97 #[.slice base ln cap] w fun e w'=>∃ cs:Array Value,e=.returned (.agg cs)∧RL noE (rep 32 byteCell) cs.toList∧Below w.heap.size w w':=by
 have e:=shaLen_ok hl
 unfold shaR at e
 cases hrun:run XS.T 60 97 [.sl 1] (rowSt ln) with
 | none=>rw [hrun] at e; cases e
 | some out =>
  rw [hrun] at e
  refine (run_ok (X:=XS) tabw pkw rkw (kS_ok w) 60 hrun (g_row hw rfl hc hb hs) (by
   refine RL_cons.2 ⟨?_,by simp [RL]⟩
   simp only [R,rowE,if_pos]
   exact ⟨base,ln,cap,rfl,rfl⟩)).mono fun e' w' he=>?_
  obtain ⟨o,ho,E',x,h1,rfl,h3,h4⟩:=he
  have:=allIs_ok e o ho
  rw [this] at h3
  simp only [R] at h3
  obtain ⟨cs,rfl,hl⟩:=h3
  exact ⟨cs,rfl,clL_ok (bytes_cl 32) hl,below_of h4⟩
def kSum (args:List SV) (st:SE.St):Option Out :=
 match args with
 | [b]=>match byteIn st b with
  | some (.r (.ofNat n) (.ofNat m))=>bif Nat.beq n m&&shaLen n then some [(bytesS 32,st)] else none
  | _=>none
 | _=>none
theorem k_sum (hP:X.P=Tryz.prog) (hX:X.T.gl=glT):KOne X 97 kSum:=by
 intro own0 w0 args st out h E w vals g hr
 unfold kSum at h
 split at h
 ·rename_i b
  obtain ⟨x,e,hx⟩:=RL1 hr
  rw [arr_of e]
  split at h
  ·rename_i n m hb
   simp only [cond_eq_ite,Bool.and_eq_true] at h
   split at h
   ·rename_i hc
    cases h
    obtain ⟨base,ln,c,rfl,h1,h2,h3,h4⟩:=byteIn_ok g hb hx
    have hn:=nbeq hc.1
    subst hn
    simp only [SIok] at h1
    have:ln=n:=by
     have:=h1.1; have:=h1.2
     simp only [Int.ofNat_eq_natCast] at *
     omega
    subst this
    rw [hP]
    refine (sum_any (glW_of g hX) hc.2 h2 h3 h4).mono fun e w' he=>?_
    obtain ⟨cs,rfl,k1,k2⟩:=he
    exact ⟨_,List.mem_cons_self,E,_,Env.le_refl E,rfl,by simp only [bytesS,R]; exact ⟨cs,rfl,clL_ok (bytes_cl 32) k1⟩,g.below k2⟩
   ·cases h
  ·cases h
 ·cases h
end SE
end
end Go.Proofs.YtdgejnakakjgfaaGreatDoor
