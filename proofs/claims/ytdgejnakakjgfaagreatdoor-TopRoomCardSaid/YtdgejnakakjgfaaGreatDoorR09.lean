/- The core under the symbolic executor: facts that hold by themselves. The core under the symbolic executor: the contracts of rules and limits. The core under the symbolic executor: the contracts of limits. A summary of a function, proved once at one state, used at any state that meets it: states under new names. A summary of a function, used at a state that meets it: the state behind it. -/
import Derived.Test.YtdgejnakakjgfaaGreatDoorR08
set_option linter.unusedVariables false
set_option linter.unusedSimpArgs false
set_option maxRecDepth 100000
namespace Go.Proofs.YtdgejnakakjgfaaGreatDoor
section
namespace SE
variable {pc:Array Value} {own0:Nat→Prop} {w0 w:World} {E:Env} {st:SE.St}
theorem isC_ok (g:G (Xc pc) own0 w0 E st w) {v:SV} {n z:Int} (h:isC st v n=true) (hr:R E v (i64 z)):z=n:=by
 unfold isC at h
 split at h
 ·rename_i k l hh hrng
  simp only [Bool.and_eq_true,decide_eq_true_eq] at h
  obtain ⟨z',hz,h1,h2⟩:=rng_ok g hrng hr
  cases hz
  omega
 ·cases h
theorem excl_ok (g:G (Xc pc) own0 w0 E st w) {v:SV} {n z:Int} (h:excl st v n=true) (hr:R E v (i64 z)):z≠n:=by
 unfold excl at h
 split at h
 ·rename_i k l hh hrng
  simp only [Bool.or_eq_true,decide_eq_true_eq] at h
  obtain ⟨z',hz,h1,h2⟩:=rng_ok g hrng hr
  cases hz
  omega
 ·cases h
theorem leR_ok (g:G (Xc pc) own0 w0 E st w) {a b:SV} {x y:Int} (h:leR st a b=true) (hx:R E a (i64 x)) (hy:R E b (i64 y)):x≤y:=by
 unfold leR at h
 split at h
 ·rename_i k1 l1 h1 k2 l2 h2 e1 e2
  simp only [decide_eq_true_eq] at h
  obtain ⟨z1,hz1,p1,p2⟩:=rng_ok g e1 hx
  obtain ⟨z2,hz2,q1,q2⟩:=rng_ok g e2 hy
  cases hz1
  cases hz2
  omega
 ·cases h
theorem ltR_ok (g:G (Xc pc) own0 w0 E st w) {a b:SV} {x y:Int} (h:ltR st a b=true) (hx:R E a (i64 x)) (hy:R E b (i64 y)):x<y:=by
 unfold ltR at h
 split at h
 ·rename_i k1 l1 h1 k2 l2 h2 e1 e2
  simp only [decide_eq_true_eq] at h
  obtain ⟨z1,hz1,p1,p2⟩:=rng_ok g e1 hx
  obtain ⟨z2,hz2,q1,q2⟩:=rng_ok g e2 hy
  cases hz1
  cases hz2
  omega
 ·cases h
theorem sumR_ok (g:G (Xc pc) own0 w0 E st w) {a b c d:SV} {x y z u:Int} (h:sumR st a b c d=true) (hx:R E a (i64 x)) (hy:R E b (i64 y)) (hz:R E c (i64 z)) (hu:R E d (i64 u)):x+y+z≤u:=by
 unfold sumR at h
 split at h
 ·rename_i e1 e2 e3 e4
  simp only [decide_eq_true_eq] at h
  obtain ⟨z1,hz1,p1,p2⟩:=rng_ok g e1 hx
  obtain ⟨z2,hz2,q1,q2⟩:=rng_ok g e2 hy
  obtain ⟨z3,hz3,r1,r2⟩:=rng_ok g e3 hz
  obtain ⟨z4,hz4,s1,s2⟩:=rng_ok g e4 hu
  cases hz1
  cases hz2
  cases hz3
  cases hz4
  omega
 ·cases h
theorem anyF_ok {k:Nat} {f:List SV→Bool}:∀ {l:List (Nat×List SV)},anyF k f l=true→∃ x,(k,x)∈l∧f x=true
 | [],h=>by cases h
 | y::l,h=>by
  simp only [anyF,cond_eq_ite,Bool.and_eq_true] at h
  split at h
  ·rename_i hh
   have:=nbeq hh.1
   obtain ⟨a,b⟩:=y
   simp only at this
   subst this
   exact ⟨b,List.mem_cons_self,hh.2⟩
  ·obtain ⟨x,h1,h2⟩:=anyF_ok h
   exact ⟨x,List.mem_cons_of_mem _ h1,h2⟩
theorem exI_eq {E:Env} {x:SV} {a b:Int} (h:exI x=true) (ha:R E x (i64 a)) (hb:R E x (i64 b)):a=b:=by
 obtain ⟨z,h1,h2⟩:=exI_two h ha hb
 simp only [i64,Value.int.injEq,true_and] at h1 h2
 omega
theorem exI_isI {x:SV} (h:exI x=true):isI x=true:=by
 unfold exI at h
 split at h <;> first | rfl | cases h
theorem allEx_allI:∀ {l:List SV},allEx l=true→allI l=true
 | [],h=>rfl
 | x::l,h=>by
  simp only [allEx,Bool.and_eq_true] at h
  simp only [allI,exI_isI h.1,allEx_allI h.2,Bool.and_self]
theorem fact_at (g:G (Xc pc) own0 w0 E st w) {k:Nat} {l:List SV} (h:(k,l)∈st.facts):∃ vs,RL E l vs∧UFc pc k vs:=g.facts _ h
theorem le1_ok (g:G (Xc pc) own0 w0 E st w) {a b:SV} {x y:Int} (ha:exI a=true) (hb:exI b=true) (h:leF1 st a b=true) (hx:R E a (i64 x)) (hy:R E b (i64 y)):x≤y:=by
 simp only [leF1,Bool.or_eq_true] at h
 rcases h with h | h | h
 ·have:=SV.beqC_eq h
  subst this
  rw [exI_eq ha hx hy]
  exact Int.le_refl _
 ·exact leR_ok g h hx hy
 ·obtain ⟨vs,h1,p,q,rfl,hpq⟩:=fact_at g (hasF_mem h)
  obtain ⟨u,v,e,hu,hv⟩:=RL2 h1
  cases e
  rw [exI_eq ha hx hu,exI_eq hb hy hv]
  exact hpq
theorem RL5 {E:Env} {a b c d e:SV} {vs:List Value} (h:RL E [a,b,c,d,e] vs):∃ x y z u v,vs=[x,y,z,u,v]∧R E a x∧R E b y∧R E c z∧R E d u∧R E e v:=by
 simp only [RL] at h
 obtain ⟨v,vs',rfl,h1,v2,vs2,rfl,h2,v3,vs3,rfl,h3,v4,vs4,rfl,h4,v5,vs5,rfl,h5,rfl⟩:=h
 exact ⟨v,v2,v3,v4,v5,rfl,h1,h2,h3,h4,h5⟩
theorem le2_ok (g:G (Xc pc) own0 w0 E st w) {a b:SV} {x y:Int} (ha:exI a=true) (hb:exI b=true) (h:leF2 st a b=true) (hx:R E a (i64 x)) (hy:R E b (i64 y)):x≤y:=by
 simp only [leF2,Bool.or_eq_true] at h
 rcases h with h | h
 ·exact le1_ok g ha hb h hx hy
 ·obtain ⟨l,hl,hf⟩:=anyF_ok h
  split at hf
  ·rename_i p q
   simp only [Bool.and_eq_true] at hf
   have:=SV.beqC_eq hf.1
   subst this
   obtain ⟨vs,h1,u,v,rfl,huv⟩:=fact_at g hl
   obtain ⟨p1,q1,e,hp,hq⟩:=RL2 h1
   cases e
   have e1:=exI_eq ha hx hp
   have e2:=le1_ok g hf.2.1 hb hf.2.2 hq hy
   omega
  ·cases hf
theorem pick3_RL {E:Env} {i:Nat} {a b c:SV} {x y z:Int} (h1:R E a (i64 x)) (h2:R E b (i64 y)) (h3:R E c (i64 z)):R E (pick3 i a b c) (i64 (pick3 i x y z)):=by
 unfold pick3
 split <;> assumption
theorem geZ_ok (g:G (Xc pc) own0 w0 E st w) {v:SV} {z:Int} (h:geZ st v=true) (hr:R E v (i64 z)):0≤z:=by
 unfold geZ at h
 split at h
 ·rename_i k l hh hrng
  simp only [decide_eq_true_eq] at h
  obtain ⟨z',hz,h1,h2⟩:=rng_ok g hrng hr
  cases hz
  omega
 ·cases h
theorem z8_ok (g:G (Xc pc) own0 w0 E st w) {h q:SV} {i:Nat} {x y:Int} (hi:i=1∨i=2∨i=3) (eh:exI h=true) (eq:exI q=true) (hz:z8 st h q i=true) (hx:R E h (i64 x)) (hy:R E q (i64 y)):x=(i:Int)→y=0:=by
 intro hxi
 simp only [z8,Bool.or_eq_true,Bool.and_eq_true] at hz
 rcases hz with hz | hz | hz
 ·exact isC_ok g hz hy
 ·exact absurd hxi (by have:=excl_ok g hz hx; simpa using this)
 ·have h0:=geZ_ok g hz.1 hy
  obtain ⟨l,hl,hf⟩:=anyF_ok hz.2
  split at hf
  ·rename_i h' p1 p2 p3
   simp only [Bool.and_eq_true] at hf
   have:=SV.beqC_eq hf.1
   subst this
   obtain ⟨vs,h1,a,b,c,d,rfl,f1,f2,f3⟩:=fact_at g hl
   obtain ⟨u1,u2,u3,u4,e,r1,r2,r3,r4⟩:=RL4 h1
   cases e
   have e1:=exI_eq eh hx r1
   have e2:=le1_ok g eq hf.2.1 hf.2.2 hy (pick3_RL r2 r3 r4)
   rcases hi with rfl | rfl | rfl <;> simp only [pick3] at e2
   ·have:=f1 (by simp at hxi; omega); omega
   ·have:=f2 (by simp at hxi; omega); omega
   ·have:=f3 (by simp at hxi; omega); omega
  ·cases hf
theorem z9_ok (g:G (Xc pc) own0 w0 E st w) {o h f:SV} {i:Nat} {x y z:Int} (hi:i=1∨i=2∨i=3) (eo:exI o=true) (eh:exI h=true) (ef:exI f=true) (hz:z9 st o h f i=true) (hx:R E o (i64 x)) (hy:R E h (i64 y)) (hf:R E f (i64 z)) :
  x=(i:Int)→z=1∧y≠(i:Int):=by
 intro hxi
 simp only [z9,Bool.or_eq_true,Bool.and_eq_true] at hz
 rcases hz with hz | hz | hz
 ·exact absurd hxi (by have:=excl_ok g hz hx; simpa using this)
 ·exact ⟨isC_ok g hz.1 hf,by have:=excl_ok g hz.2 hy; simpa using this⟩
 ·obtain ⟨l,hl,hq⟩:=anyF_ok hz
  split at hq
  ·rename_i o' h' g1 g2 g3
   simp only [Bool.and_eq_true,Bool.or_eq_true] at hq
   have e1:=SV.beqC_eq hq.1
   have e2:=SV.beqC_eq hq.2.1
   subst e1 e2
   obtain ⟨vs,h1,a,b,c,d,e,rfl,f0,f1,f2,f3⟩:=fact_at g hl
   obtain ⟨u1,u2,u3,u4,u5,ee,r1,r2,r3,r4,r5⟩:=RL5 h1
   cases ee
   have e1:=exI_eq eo hx r1
   have e2:=exI_eq eh hy r2
   have key:pick3 i c d e=1∧b≠(i:Int):=by
    rcases hi with rfl | rfl | rfl <;> simp only [pick3]
    ·exact f1 (by simp at hxi; omega)
    ·exact f2 (by simp at hxi; omega)
    ·exact f3 (by simp at hxi; omega)
   refine ⟨?_,by rw [e2]; exact key.2⟩
   rcases hq.2.2 with hq | hq
   ·exact isC_ok g hq hf
   ·have:=SV.beqC_eq hq
    subst this
    rw [exI_eq ef hf (pick3_RL r3 r4 r5)]
    exact key.1
  ·cases hq
theorem z10_ok (g:G (Xc pc) own0 w0 E st w) {a b:SV} {x y:Int} (ea:exI a=true) (h:z10 st a b=true) (hx:R E a (i64 x)) (hy:R E b (i64 y)):x≤y:=by
 simp only [z10,Bool.and_eq_true,Bool.or_eq_true] at h
 rcases h.2 with h2 | h2
 ·have:=SV.beqC_eq h2
  subst this
  rw [exI_eq ea hx hy]
  exact Int.le_refl _
 ·exact leR_ok g h2 hx hy
theorem mostOf_nn (hp:PolFit pc):0≤mostOf pc:=by
 have h:0≤pI pc 51:=(hp.most 1 (by omega)).1
 simp only [mostOf]
 omega
theorem fzc (hp:PolFit pc):FzOk (Xc pc) zT:=by
 intro own0 w0 E st w g k svs h
 simp only [zT,Bool.and_eq_true] at h
 obtain ⟨hex,hv,hz⟩:=h
 obtain ⟨vs,hvs⟩:=hasV_ok g hv
 refine ⟨vs,hvs,?_⟩
 obtain ⟨zs,rfl⟩:=allI_ok (allEx_allI hex) hvs
 unfold zT1 at hz
 split at hz
 ·rename_i x
  simp only [Bool.and_eq_true] at hz
  have:=nbeq hz.1
  subst this
  obtain ⟨u,e,hu⟩:=RL1 hvs
  match zs,e with
  | [z],e =>
   cases e
   have h0:=mostOf_nn hp
   have:=isC_ok g hz.2 hu
   exact ⟨z,rfl,by omega,by omega⟩
 ·rename_i a b
  simp only [Bool.and_eq_true,Bool.or_eq_true] at hz
  obtain ⟨u,v,e,hua,hub⟩:=RL2 hvs
  simp only [allEx,Bool.and_eq_true] at hex
  match zs,e with
  | [x,y],e =>
   cases e
   rcases hz with ⟨hk,hz⟩ | ⟨hk,hz⟩
   ·have:=nbeq hk
    subst this
    exact ⟨x,y,rfl,le2_ok g hex.1 hex.2.1 hz hua hub⟩
   ·have:=nbeq hk
    subst this
    refine ⟨x,y,rfl,?_⟩
    obtain ⟨l1,hl1,hf1⟩:=anyF_ok hz
    split at hf1
    ·rename_i p r
     simp only [Bool.and_eq_true] at hf1
     have:=SV.beqC_eq hf1.1
     subst this
     obtain ⟨l2,hl2,hf2⟩:=anyF_ok hf1.2
     split at hf2
     ·rename_i q s
      simp only [Bool.and_eq_true] at hf2
      have:=SV.beqC_eq hf2.1
      subst this
      obtain ⟨vs1,k1,x1,r1,rfl,er1⟩:=fact_at g hl1
      obtain ⟨vs2,k2,x2,r2,rfl,er2⟩:=fact_at g hl2
      obtain ⟨u1,v1,e1,p1,q1⟩:=RL2 k1
      obtain ⟨u2,v2,e2,p2,q2⟩:=RL2 k2
      cases e1
      cases e2
      rw [exI_eq hex.1 hua p1,exI_eq hex.2.1 hub p2,← er1,← er2]
      exact ltR_ok g hf2.2 q1 q2
     ·cases hf2
    ·cases hf1
 ·rename_i f i r
  simp only [Bool.and_eq_true,Bool.or_eq_true] at hz
  have:=nbeq hz.1
  subst this
  obtain ⟨u,v,x,e,hu,hv,hx⟩:=RL3 hvs
  simp only [allEx,Bool.and_eq_true] at hex
  match zs,e with
  | [zf,zi,zr],e =>
   cases e
   refine ⟨zf,zi,zr,rfl,?_⟩
   rcases hz.2 with h2 | h2
   ·exact .inl (isC_ok g h2 hu)
   ·obtain ⟨vs',h1,p,q,rfl,hpq⟩:=fact_at g (hasF_mem h2)
    obtain ⟨u1,u2,e,r1,r2⟩:=RL2 h1
    cases e
    rw [exI_eq hex.2.1 hv r1,exI_eq hex.2.2.1 hx r2]
    exact .inr hpq
 ·rename_i a b c d
  obtain ⟨u1,u2,u3,u4,e,r1,r2,r3,r4⟩:=RL4 hvs
  simp only [allEx,Bool.and_eq_true] at hex
  obtain ⟨x1,x2,x3,x4,_⟩:=hex
  match zs,e with
  | [za,zb,zc,zd],e =>
   cases e
   simp only [cond_eq_ite] at hz
   split at hz
   ·rename_i hk
    have:=nbeq hk
    subst this
    simp only [Bool.and_eq_true] at hz
    exact ⟨za,zb,zc,zd,rfl,z8_ok g (.inl rfl) x1 x2 hz.1 r1 r2,z8_ok g (.inr (.inl rfl)) x1 x3 hz.2.1 r1 r3,z8_ok g (.inr (.inr rfl)) x1 x4 hz.2.2 r1 r4⟩
   ·split at hz
    ·rename_i hk
     have:=nbeq hk
     subst this
     refine ⟨za,zb,zc,zd,rfl,?_⟩
     simp only [Bool.or_eq_true] at hz
     rcases hz with hz | hz
     ·exact sumR_ok g hz r1 r2 r3 r4
     ·obtain ⟨l,hl,hf⟩:=anyF_ok hz
      split at hf
      ·rename_i x y z m
       simp only [Bool.and_eq_true] at hf
       have:=SV.beqC_eq hf.1
       subst this
       obtain ⟨vs',h1,p,q,r,s,rfl,hpq⟩:=fact_at g hl
       obtain ⟨v1,v2,v3,v4,e,q1,q2,q3,q4⟩:=RL4 h1
       cases e
       have e1:=z10_ok g x1 hf.2.1 r1 q1
       have e2:=z10_ok g x2 hf.2.2.1 r2 q2
       have e3:=z10_ok g x3 hf.2.2.2 r3 q3
       have e4:=exI_eq x4 r4 q4
       omega
      ·cases hf
    ·split at hz
     ·rename_i hk
      have:=nbeq hk
      subst this
      refine ⟨za,zb,zc,zd,rfl,?_⟩
      simp only [Bool.or_eq_true] at hz
      rcases hz with hz | hz | hz
      ·exact .inl (isC_ok g hz r1)
      ·exact .inr (.inl (isC_ok g hz r2))
      ·have:=SV.beqC_eq hz
       subst this
       exact .inr (.inr (exI_eq x3 r3 r4))
     ·cases hz
 ·rename_i o h a b c
  obtain ⟨u1,u2,u3,u4,u5,e,r1,r2,r3,r4,r5⟩:=RL5 hvs
  simp only [allEx,Bool.and_eq_true] at hex
  obtain ⟨x1,x2,x3,x4,x5,_⟩:=hex
  match zs,e with
  | [zo,zh,za,zb,zc],e =>
   cases e
   simp only [Bool.and_eq_true] at hz
   obtain ⟨hk,h0,h1,h2,h3⟩:=hz
   have:=nbeq hk
   subst this
   refine ⟨zo,zh,za,zb,zc,rfl,?_,z9_ok g (.inl rfl) x1 x2 x3 h1 r1 r2 r3,z9_ok g (.inr (.inl rfl)) x1 x2 x4 h2 r1 r2 r4,z9_ok g (.inr (.inr rfl)) x1 x2 x5 h3 r1 r2 r5⟩
   simp only [Bool.or_eq_true] at h0
   rcases h0 with h0 | h0
   ·exact excl_ok g h0 r1
   ·obtain ⟨l,hl,hf⟩:=anyF_ok h0
    split at hf
    ·have:=SV.beqC_eq hf
     subst this
     obtain ⟨vs',h1,p,q,r,s,t,rfl,f0,_⟩:=fact_at g hl
     obtain ⟨v1,v2,v3,v4,v5,e,q1,_⟩:=RL5 h1
     cases e
     rw [exI_eq x1 r1 q1]
     exact f0
    ·cases hf
 ·cases hz
end SE
end
section
namespace SE
open Go.RowKit
variable {X:Px} {pc:Array Value} {own0:Nat→Prop} {w0 w:World} {E:Env} {st:SE.St}
def KOne (X:Px) (gi:Nat) (kf:List SV→SE.St→Option Out):Prop :=
 ∀ own0 w0 args st l,kf args st=some l→∀ E w (vals:Array Value),G X own0 w0 E st w→RL E args vals.toList→Calls X.P gi vals w (Outs X own0 w0 E l)
theorem G.below (g:G X own0 w0 E st w) {w':World} (h:Below w.heap.size w w'):G X own0 w0 E st w' :=
 g.ext ⟨h.size,h.block⟩ h.os h.tape h.output
theorem G.addFact (g:G X own0 w0 E st w) {k:Nat} {l:List SV} (h:∃ vs,RL E l vs∧X.UF k vs):G X own0 w0 E (addFact st k l) w:=by
 refine ⟨g.size,g.os,g.tape,g.output,g.frame,g.heap,g.inj,g.tab,fun id i hl=>?_,g.dom,g.gl,fun x hx=>?_⟩
 ·have:=g.sls id i hl
  cases i <;> exact this
 ·rcases List.mem_cons.1 hx with rfl | hx
  ·exact h
  ·exact g.facts x hx
theorem G.atom (g:G X own0 w0 E st w) {lo hi z:Int} (h1:lo≤z) (h2:z≤hi):G X own0 w0 (E.upd st.nid (.z z)) (atom st lo hi) w:=by
 have hle:=Env.le_upd (x:=EV.z z) g.nid_none
 have g1:=g.mono hle (fun id hid=>Env.upd_ne _ _ (by omega)) (Nat.le_succ _) (dom_upd g _)
 refine ⟨g1.size,g1.os,g1.tape,g1.output,g1.frame,g1.heap,g1.inj,fun id lo' hi' hl=>?_,fun id i hl=>?_,g1.dom,g1.gl,g1.facts⟩
 ·simp only [SE.atom,lk_cons] at hl
  split at hl
  ·rename_i he
   subst he
   cases hl
   exact ⟨z,Env.upd_self _ _ _,h1,h2⟩
  ·exact g1.tab id lo' hi' hl
 ·have:=g1.sls id i hl
  cases i <;> exact this
theorem exS_eq {E:Env} {x:SV} {u v:Value} (h:exS x=true) (hu:R E x u) (hv:R E x v):u=v:=by
 unfold exS at h
 split at h
 ·simp only [R,SIok] at hu hv
  obtain ⟨a,ha,rfl⟩:=hu
  obtain ⟨b,hb,rfl⟩:=hv
  rw [ha] at hb
  cases hb
  rfl
 ·simp only [R] at hu hv
  obtain ⟨b1,n1,c1,e1,rfl⟩:=hu
  obtain ⟨b2,n2,c2,e2,rfl⟩:=hv
  rw [e1] at e2
  cases e2
  rfl
 ·cases h
theorem allXS_eq {E:Env}:∀ {l:List SV} {us vs:List Value},allXS l=true→RL E l us→RL E l vs→us=vs
 | [],us,vs,h,hu,hv=>by rw [RL_nil.1 hu,RL_nil.1 hv]
 | x::l,us,vs,h,hu,hv=>by
  simp only [allXS,Bool.and_eq_true] at h
  simp only [RL] at hu hv
  obtain ⟨u,us',rfl,u1,u2⟩:=hu
  obtain ⟨v,vs',rfl,v1,v2⟩:=hv
  rw [exS_eq h.1 u1 v1,allXS_eq h.2 u2 v2]
theorem isPol_ok (g:G (Xc pc) own0 w0 E st w) {p:SV} {v:Value} (h:isPol st p=true) (hr:R E p v):v=.agg pc:=by
 unfold isPol at h
 split at h
 ·rename_i l
  simp only [Bool.and_eq_true] at h
  obtain ⟨vs,h1,h2⟩:=fact_at g (hasF_mem h.2)
  simp only [R] at hr
  obtain ⟨cs,rfl,hl⟩:=hr
  have e:=allXS_eq h.1 hl h1
  have h2':vs=pc.toList:=h2
  rw [h2'] at e
  congr 1
  exact Array.ext' e
 ·cases h
theorem isI_ok {E:Env} {x:SV} {v:Value} (h:isI x=true) (hr:R E x v):∃ z,v=i64 z:=by
 unfold isI at h
 split at h
 ·simp only [R] at hr
  obtain ⟨z,_,rfl⟩:=hr
  exact ⟨z,rfl⟩
 ·cases h
theorem isIn_ok (g:G X own0 w0 E st w) {x:SV} {v:Value} {a b:Int} (h:isIn st x a b=true) (hr:R E x v):∃ z,v=i64 z∧a≤z∧z≤b:=by
 simp only [isIn,Bool.and_eq_true] at h
 obtain ⟨z,rfl⟩:=isI_ok h.1 hr
 refine ⟨z,rfl,?_⟩
 have h2:=h.2
 split at h2
 ·rename_i k l hh hrng
  simp only [Bool.and_eq_true,decide_eq_true_eq] at h2
  obtain ⟨z',hz,h3,h4⟩:=rng_ok g hrng hr
  cases hz
  omega
 ·cases h2
theorem Rbool (E:Env) (b:Bool):R E .bool (.bool b):=by simp only [R]; exact ⟨b,rfl⟩
theorem k_takes (hp:PolFit pc):KOne (Xc pc) 102 kTakes:=by
 intro own0 w0 args st l h E w vals g hr
 unfold kTakes at h
 split at h
 ·rename_i p s r
  obtain ⟨x,y,z,e,hx,hy,hz⟩:=RL3 hr
  rw [arr_of e]
  simp only [cond_eq_ite,Bool.and_eq_true] at h
  split at h
  ·rename_i hc
   cases h
   have:=isPol_ok g hc.1 hx
   subst this
   obtain ⟨s',rfl⟩:=isI_ok hc.2.1 hy
   obtain ⟨r',rfl⟩:=isI_ok hc.2.2 hz
   refine (takes_any pc s' r' w hp.ok hp.sets).mono fun e w' he=>?_
   obtain ⟨rfl,hb⟩:=he
   have g':=g.below hb
   cases ht:takes pc s' r' with
   | true=>exact ⟨_,List.mem_cons_self,E,_,Env.le_refl E,rfl,by simp only [R],g'.addFact ⟨[i64 s',i64 r'],RL_cons.2 ⟨hy,RL_cons.2 ⟨hz,by simp [RL]⟩⟩,s',r',rfl,ht⟩⟩
   | false=>exact ⟨_,List.mem_cons_of_mem _ List.mem_cons_self,E,_,Env.le_refl E,rfl,by simp only [R],g'⟩
  ·cases h
 ·cases h
theorem k_higher (hp:PolFit pc):KOne (Xc pc) 204 kHigher:=by
 intro own0 w0 args st l h E w vals g hr
 unfold kHigher at h
 split at h
 ·rename_i p s r
  obtain ⟨x,y,z,e,hx,hy,hz⟩:=RL3 hr
  rw [arr_of e]
  simp only [cond_eq_ite,Bool.and_eq_true] at h
  split at h
  ·rename_i hc
   cases h
   have:=isPol_ok g hc.1 hx
   subst this
   obtain ⟨s',rfl⟩:=isI_ok hc.2.1 hy
   obtain ⟨r',rfl⟩:=isI_ok hc.2.2 hz
   refine (higher_any pc s' r' w hp.ok).mono fun e w' he=>?_
   obtain ⟨rfl,hb⟩:=he
   exact ⟨_,List.mem_cons_self,E,_,Env.le_refl E,rfl,Rbool E _,g.below hb⟩
  ·cases h
 ·cases h
theorem k_rank (hp:PolFit pc):KOne (Xc pc) 206 kRank:=by
 intro own0 w0 args st l h E w vals g hr
 unfold kRank at h
 split at h
 ·rename_i p s
  obtain ⟨x,y,e,hx,hy⟩:=RL2 hr
  rw [arr_of e]
  simp only [cond_eq_ite,Bool.and_eq_true] at h
  split at h
  ·rename_i hc
   cases h
   have:=isPol_ok g hc.1 hx
   subst this
   obtain ⟨s',rfl⟩:=isI_ok hc.2 hy
   refine (rank_any pc s' w hp.ok).mono fun e w' he=>?_
   obtain ⟨rfl,hb⟩:=he
   have hrk:=rank_ge pc s'
   have hle:=Env.le_upd (x:=EV.z (rank pc s')) g.nid_none
   have hra:R (E.upd st.nid (.z (rank pc s'))) (A st.nid) (i64 (rank pc s')):=by
    simp only [A,R,SIok]
    exact ⟨_,Env.upd_self _ _ _,rfl⟩
   refine ⟨_,List.mem_cons_self,E.upd st.nid (.z (rank pc s')),_,hle,rfl,hra,?_⟩
   exact ((g.below hb).atom hrk.1 hrk.2).addFact ⟨[i64 s',i64 (rank pc s')],RL_cons.2 ⟨hy.mono hle,RL_cons.2 ⟨hra,by simp [RL]⟩⟩,s',rank pc s',rfl,rfl⟩
  ·cases h
 ·cases h
theorem nat_of {z:Int} {n:Nat} (h1:0≤z) (h2:z≤(n:Int)):∃ m:Nat,z=m∧m≤n:=⟨z.toNat,by omega,by omega⟩
theorem g_alloc (g:G X own0 w0 E st w) (o:Obj):G X own0 w0 E st (w.alloc o):=g.ext (ext_alloc w o) rfl rfl rfl
theorem k_may (hp:PolFit pc):KOne (Xc pc) 168 kMay:=by
 intro own0 w0 args st l h E w vals g hr
 unfold kMay at h
 split at h
 ·rename_i p m r c
  obtain ⟨x,y,z,u,e,hx,hy,hz,hu⟩:=RL4 hr
  rw [arr_of e]
  simp only [cond_eq_ite,Bool.and_eq_true] at h
  split at h
  ·rename_i hc
   cases h
   have:=isPol_ok g hc.1 hx
   subst this
   obtain ⟨a,rfl,a1,a2⟩:=isIn_ok g hc.2.1 hy
   obtain ⟨b,rfl,b1,b2⟩:=isIn_ok g hc.2.2.1 hz
   obtain ⟨d,rfl,d1,d2⟩:=isIn_ok g hc.2.2.2 hu
   obtain ⟨a',rfl,a3⟩:=nat_of (n:=4) a1 a2
   obtain ⟨b',rfl,b3⟩:=nat_of (n:=3) b1 b2
   obtain ⟨d',rfl,d3⟩:=nat_of (n:=3) d1 d2
   refine (may_any pc a' b' d' w hp.ok hp.sets (by omega) (by omega) (by omega)).mono fun e w' he=>?_
   obtain ⟨t,rfl,rfl⟩:=he
   exact ⟨_,List.mem_cons_self,E,_,Env.le_refl E,rfl,Rbool E _,g_alloc g _⟩
  ·cases h
 ·cases h
theorem k_goes (hp:PolFit pc):KOne (Xc pc) 169 kGoes:=by
 intro own0 w0 args st l h E w vals g hr
 unfold kGoes at h
 split at h
 ·rename_i p m r
  obtain ⟨x,y,z,e,hx,hy,hz⟩:=RL3 hr
  rw [arr_of e]
  simp only [cond_eq_ite,Bool.and_eq_true] at h
  split at h
  ·rename_i hc
   cases h
   have:=isPol_ok g hc.1 hx
   subst this
   obtain ⟨a,rfl,a1,a2⟩:=isIn_ok g hc.2.1 hy
   obtain ⟨b,rfl,b1,b2⟩:=isIn_ok g hc.2.2 hz
   obtain ⟨a',rfl,a3⟩:=nat_of (n:=4) a1 a2
   obtain ⟨b',rfl,b3⟩:=nat_of (n:=4) b1 b2
   refine (goes_any pc a' b' w hp.ok hp.sets (by omega) (by omega)).mono fun e w' he=>?_
   obtain ⟨t,rfl,rfl⟩:=he
   exact ⟨_,List.mem_cons_self,E,_,Env.le_refl E,rfl,Rbool E _,g_alloc g _⟩
  ·cases h
 ·cases h
theorem k_see:KOne (Xc pc) 109 kSee:=by
 intro own0 w0 args st l h E w vals g hr
 unfold kSee at h
 split at h
 ·rename_i a hi sn n
  obtain ⟨x,y,e,hx,hy⟩:=RL2 hr
  rw [arr_of e]
  simp only [cond_eq_ite,Bool.and_eq_true] at h
  split at h
  ·rename_i hc
   cases h
   simp only [R] at hx
   obtain ⟨cs,rfl,hl⟩:=hx
   obtain ⟨u1,u2,u3,e2,r1,r2,r3⟩:=RL3 hl
   obtain ⟨b,rfl⟩:=isB_ok hc.1 r1
   obtain ⟨z,rfl,z1,z2⟩:=isIn_ok g hc.2.1 r2
   obtain ⟨m,rfl⟩:=isI_ok hc.2.2 hy
   simp only [R] at r3
   obtain ⟨q,_,rfl⟩:=r3
   rw [arr_of e2]
   refine (see_any b z q m w z1 z2).mono fun e w' he=>?_
   obtain ⟨a',h',s',f',rfl,k1,k2,hb⟩:=he
   have hle:=Env.le_upd (x:=EV.z s') g.nid_none
   have g1:=(g.below hb).mono hle (fun id hid=>Env.upd_ne _ _ (by omega)) (Nat.le_succ _) (dom_upd g _)
   refine ⟨_,List.mem_cons_self,E.upd st.nid (.z s'),_,hle,rfl,?_,g1⟩
   simp only [R]
   refine ⟨_,rfl,RL_cons.2 ⟨?_,RL_cons.2 ⟨Rbool _ _,by simp [RL]⟩⟩⟩
   simp only [R]
   refine ⟨_,rfl,RL_cons.2 ⟨Rbool _ _,RL_cons.2 ⟨RU k1 k2,RL_cons.2 ⟨?_,by simp [RL]⟩⟩⟩⟩
   simp only [R,SIok]
   exact ⟨s',Env.upd_self _ _ _,rfl⟩
  ·cases h
 ·cases h
end SE
end
section
namespace SE
open Go.RowKit
variable {X:Px} {pc:Array Value} {own0:Nat→Prop} {w0 w:World} {E:Env} {st:SE.St}
theorem G.addTab (g:G X own0 w0 E st w) {id:Nat} {lo hi z:Int} (hE:E id=some (.z z)) (h1:lo≤z) (h2:z≤hi):G X own0 w0 E { st with tab:=(id,lo,hi)::st.tab } w:=by
 refine ⟨g.size,g.os,g.tape,g.output,g.frame,g.heap,g.inj,fun id' lo' hi' hl=>?_,fun id' i hl=>?_,g.dom,g.gl,g.facts⟩
 ·simp only [lk_cons] at hl
  split at hl
  ·rename_i he
   subst he
   cases hl
   exact ⟨z,hE,h1,h2⟩
  ·exact g.tab id' lo' hi' hl
 ·have:=g.sls id' i hl
  cases i <;> exact this
theorem most_le (hp:PolFit pc):mostOf pc≤1000:=by
 have h1:pI pc 51≤1000:=(hp.most 1 (by omega)).2
 have h2:pI pc 52≤1000:=(hp.most 2 (by omega)).2
 have h3:pI pc 53≤1000:=(hp.most 3 (by omega)).2
 simp only [mostOf]
 omega
theorem bnd_ok (hp:PolFit pc):∀ (n i:Nat) {E:Env} {st:SE.St},G (Xc pc) own0 w0 E st w→(∀ j,j<n→∃ z,E (i+j)=some (.z z)∧-mostOf pc≤z∧z≤mostOf pc)→G (Xc pc) own0 w0 E (bnd st i n) w
 | 0,i,E,st,g,h=>g
 | n+1,i,E,st,g,h=>by
  obtain ⟨z,hz,z1,z2⟩:=h 0 (by omega)
  have hm:=most_le hp
  refine bnd_ok hp n (i+1) ?_ fun j hj=>by
   have:=h (j+1) (by omega)
   rw [show i+1+j=i+(j+1) by omega]
   exact this
  have g1:=g.addTab (lo:=-1000) (hi:=1000) hz (by omega) (by omega)
  exact g1.addFact (k:=0) (l:=[A i]) ⟨[i64 z],RL_cons.2 ⟨by simp only [A,R,SIok]; exact ⟨z,hz,rfl⟩,by simp [RL]⟩,z,rfl,z1,z2⟩
theorem four_ok (hp:PolFit pc) (g:G (Xc pc) own0 w0 E st w) {z1 z2 z3 z4:Int} (h1:-mostOf pc≤z1∧z1≤mostOf pc) (h2:-mostOf pc≤z2∧z2≤mostOf pc) (h3:-mostOf pc≤z3∧z3≤mostOf pc) (h4:-mostOf pc≤z4∧z4≤mostOf pc) :
  ∃ E',E.le E'∧RL E' (four st.nid) [i64 z1,i64 z2,i64 z3,i64 z4]∧G (Xc pc) own0 w0 E' (bnd { st with nid:=st.nid+4 } st.nid 4) w:=by
 let E':Env:=fun id=>if id=st.nid then some (.z z1) else if id=st.nid+1 then some (.z z2) else if id=st.nid+2 then some (.z z3) else if id=st.nid+3 then some (.z z4) else E id
 have e0:E' st.nid=some (.z z1):=by simp [E']
 have e1:E' (st.nid+1)=some (.z z2):=by simp [E']
 have e2:E' (st.nid+2)=some (.z z3):=by simp [E']
 have e3:E' (st.nid+3)=some (.z z4):=by simp [E']
 have hlow:∀ id,id<st.nid→E' id=E id:=fun id hid=>by
  simp only [E']
  rw [if_neg (by omega),if_neg (by omega),if_neg (by omega),if_neg (by omega)]
 have hle:E.le E':=fun id x hx=>by
  have hid:id<st.nid:=Nat.lt_of_not_le fun hn=>by rw [g.dom id hn] at hx; cases hx
  rw [hlow id hid]
  exact hx
 have g1:=g.mono hle hlow (nid:=st.nid+4) (by omega) (fun id hid=>by
  simp only [E']
  rw [if_neg (by omega),if_neg (by omega),if_neg (by omega),if_neg (by omega)]
  exact g.dom id (by omega))
 have ra:∀ {id:Nat} {z:Int},E' id=some (.z z)→R E' (A id) (i64 z):=fun {id z} h=>by
  simp only [A,R,SIok]
  exact ⟨z,h,rfl⟩
 refine ⟨E',hle,RL_cons.2 ⟨ra e0,RL_cons.2 ⟨ra e1,RL_cons.2 ⟨ra e2,RL_cons.2 ⟨ra e3,by simp [RL]⟩⟩⟩⟩,bnd_ok hp 4 st.nid g1 fun j hj=>?_⟩
 have:j=0∨j=1∨j=2∨j=3:=by omega
 rcases this with rfl | rfl | rfl | rfl
 ·exact ⟨z1,e0,h1⟩
 ·exact ⟨z2,e1,h2⟩
 ·exact ⟨z3,e2,h3⟩
 ·exact ⟨z4,e3,h4⟩
theorem class_most (hp:PolFit pc) {c:Nat} (h1:1≤c) (h2:c≤3):pI pc (50+c)≤mostOf pc:=by
 have:c=1∨c=2∨c=3:=by omega
 simp only [mostOf]
 rcases this with rfl | rfl | rfl <;> simp <;> omega
theorem k_set (hp:PolFit pc):KOne (Xc pc) 122 kSet:=by
 intro own0 w0 args st l h E w vals g hr
 unfold kSet at h
 split at h
 ·rename_i p c0 t1 t2 t3 t4 n1 n2 n3 n4 b1 b2 b3 c x1 x2 x3 x4 y1 y2 y3
  obtain ⟨v1,v2,v3,v4,v5,e,r1,r2,r3,r4,r5⟩:=RL5 hr
  rw [arr_of e]
  simp only [cond_eq_ite,Bool.and_eq_true] at h
  split at h
  ·rename_i hc
   cases h
   have:=isPol_ok g hc.1 r1
   subst this
   obtain ⟨cz,rfl,cz1,cz2⟩:=isIn_ok g hc.2.1 r3
   obtain ⟨cn,rfl,_⟩:=nat_of (n:=3) (by omega) cz2
   simp only [R] at r2 r4 r5
   obtain ⟨ptv,rfl,hpt⟩:=r2
   obtain ⟨xv,rfl,hx⟩:=r4
   obtain ⟨yv,rfl,hy⟩:=r5
   have hall:=hc.2.2
   have hjoin:RL E [c0,t1,t2,t3,t4,n1,n2,n3,n4,b1,b2,b3,x1,x2,x3,x4,y1,y2,y3] (ptv.toList++(xv.toList++yv.toList)):=RL_append hpt (RL_append hx hy)
   obtain ⟨zs,hzs⟩:=allI_ok hall hjoin
   have l1:=RL_length hpt
   have l2:=RL_length hx
   have l3:=RL_length hy
   simp only [List.length_cons,List.length_nil] at l1 l2 l3
   have hlen:zs.length=19:=by
    have:=congrArg List.length hzs
    simp only [List.length_append,List.length_map] at this
    omega
   match zs,hlen with
   | [q0,q1,q2,q3,q4,q5,q6,q7,q8,q9,q10,q11,q12,q13,q14,q15,q16,q17,q18],_ =>
    have ept:ptv.toList=[i64 q0,i64 q1,i64 q2,i64 q3,i64 q4,i64 q5,i64 q6,i64 q7,i64 q8,i64 q9,i64 q10,i64 q11]:=by
     have:=congrArg (List.take 12) hzs
     rw [List.take_append_of_le_length (by omega),List.take_of_length_le (by omega)] at this
     simpa using this
    have exy:xv.toList++yv.toList=[i64 q12,i64 q13,i64 q14,i64 q15,i64 q16,i64 q17,i64 q18]:=by
     have:=congrArg (List.drop 12) hzs
     rw [List.drop_append_of_le_length (by omega),List.drop_of_length_le (by omega)] at this
     simpa using this
    have ex:xv.toList=[i64 q12,i64 q13,i64 q14,i64 q15]:=by
     have:=congrArg (List.take 4) exy
     rw [List.take_append_of_le_length (by omega),List.take_of_length_le (by omega)] at this
     simpa using this
    have ey:yv.toList=[i64 q16,i64 q17,i64 q18]:=by
     have:=congrArg (List.drop 4) exy
     rw [List.drop_append_of_le_length (by omega),List.drop_of_length_le (by omega)] at this
     simpa using this
    rw [arr_of ept,arr_of ex,arr_of ey]
    rw [ept] at hpt
    rw [ey] at hy
    have hm:=hp.most cn (by omega)
    have hcm:=class_most hp (c:=cn) (by omega) (by omega)
    refine (set_any ⟨q0,q1,q2,q3,q4,q5,q6,q7,q8,⟨q9,q10,q11⟩⟩ pc cn q12 q13 q14 q15 ⟨q16,q17,q18⟩ w hp.ok (by omega) hm.1 hm.2).mono fun e w' he=>?_
    obtain ⟨rfl,hb⟩:=he
    have cl:=fun x=>clamp_in x (pI pc (50+cn)) hm.1
    obtain ⟨E',hle,hf,hG⟩:=four_ok hp (g.below hb) (z1:=clamp q12 (-pI pc (50+cn)) (pI pc (50+cn))) (z2:=clamp q13 (-pI pc (50+cn)) (pI pc (50+cn))) (z3:=clamp q14 (-pI pc (50+cn)) (pI pc (50+cn))) (z4:=clamp q15 (-pI pc (50+cn)) (pI pc (50+cn)))
     (by have:=cl q12; omega) (by have:=cl q13; omega) (by have:=cl q14; omega) (by have:=cl q15; omega)
    refine ⟨_,List.mem_cons_self,E',_,hle,rfl,?_,hG⟩
    simp only [R]
    refine ⟨_,rfl,?_⟩
    have hpt':=hpt.mono hle
    simp only [RL_cons] at hpt'
    have hy':=hy.mono hle
    have hn:RL E' [n1,n2,n3,n4,y1,y2,y3] ([i64 q5,i64 q6,i64 q7,i64 q8]++[i64 q16,i64 q17,i64 q18]):=RL_append (l:=[n1,n2,n3,n4]) (m:=[y1,y2,y3])
     (RL_cons.2 ⟨hpt'.2.2.2.2.2.1,RL_cons.2 ⟨hpt'.2.2.2.2.2.2.1,RL_cons.2 ⟨hpt'.2.2.2.2.2.2.2.1,RL_cons.2 ⟨hpt'.2.2.2.2.2.2.2.2.1,by simp [RL]⟩⟩⟩⟩) hy'
    exact RL_cons.2 ⟨r3.mono hle,RL_append hf hn⟩
  ·cases h
 ·cases h
theorem bounded_ok (hp:PolFit pc) (g:G (Xc pc) own0 w0 E st w) {v:SV} {x:Value} (h:bounded st v=true) (hr:R E v x):∃ z,x=i64 z∧-mostOf pc≤z∧z≤mostOf pc:=by
 have h0:=mostOf_nn hp
 unfold bounded at h
 split at h
 ·simp only [Bool.and_eq_true,decide_eq_true_eq] at h
  simp only [R,SIok] at hr
  obtain ⟨z,hz,rfl⟩:=hr
  exact ⟨z,rfl,by omega,by omega⟩
 ·rename_i i
  obtain ⟨vs,h1,z,rfl,h2⟩:=fact_at g (hasF_mem h)
  obtain ⟨u,e,hu⟩:=RL1 h1
  cases e
  have:=exS_eq (x:=.int .i64 (.a i)) rfl hr hu
  exact ⟨z,this,h2⟩
 ·cases h
theorem allB_ok (hp:PolFit pc) (g:G (Xc pc) own0 w0 E st w):∀ {l:List SV} {vs:List Value},allB st l=true→RL E l vs→∃ zs:List Int,vs=zs.map i64∧∀ z∈zs,-mostOf pc≤z∧z≤mostOf pc
 | [],vs,h,hr=>⟨[],by rw [RL_nil.1 hr]; rfl,fun z hz=>(by cases hz)⟩
 | x::l,[],h,hr=>by simp [RL] at hr
 | x::l,v::vs,h,hr=>by
  simp only [allB,Bool.and_eq_true] at h
  obtain ⟨z,rfl,hz⟩:=bounded_ok hp g h.1 (RL_cons.1 hr).1
  obtain ⟨zs,rfl,hzs⟩:=allB_ok hp g h.2 (RL_cons.1 hr).2
  refine ⟨z::zs,rfl,fun y hy=>?_⟩
  rcases List.mem_cons.1 hy with rfl | hy
  ·exact hz
  ·exact hzs y hy
theorem RL12 {E:Env} {a b c d e f g h i j k l:SV} {vs:List Value} (hr:RL E [a,b,c,d,e,f,g,h,i,j,k,l] vs) :
  ∃ v1 v2 v3 v4 v5 v6 v7 v8 v9 v10 v11 v12,vs=[v1,v2,v3,v4,v5,v6,v7,v8,v9,v10,v11,v12]∧R E a v1∧RL E [b,c,d,e,f,g,h,i] [v2,v3,v4,v5,v6,v7,v8,v9]∧R E j v10∧R E k v11∧R E l v12:=by
 have hl:=RL_length hr
 simp only [List.length_cons,List.length_nil] at hl
 match vs,hl with
 | [v1,v2,v3,v4,v5,v6,v7,v8,v9,v10,v11,v12],_ =>
  simp only [RL_cons] at hr
  obtain ⟨r1,r2,r3,r4,r5,r6,r7,r8,r9,r10,r11,r12,_⟩:=hr
  exact ⟨v1,v2,v3,v4,v5,v6,v7,v8,v9,v10,v11,v12,rfl,r1,RL_cons.2 ⟨r2,RL_cons.2 ⟨r3,RL_cons.2 ⟨r4,RL_cons.2 ⟨r5,RL_cons.2 ⟨r6,RL_cons.2 ⟨r7,RL_cons.2 ⟨r8,RL_cons.2 ⟨r9,by simp [RL]⟩⟩⟩⟩⟩⟩⟩⟩,r10,r11,r12⟩
theorem k_limit (hp:PolFit pc):KOne (Xc pc) 90 kLimit:=by
 intro own0 w0 args st l h E w vals g hr
 unfold kLimit at h
 split at h
 ·rename_i p c t1 t2 t3 t4 n1 n2 n3 n4 b1 b2 b3
  obtain ⟨v1,v2,e,r1,r2⟩:=RL2 hr
  rw [arr_of e]
  simp only [cond_eq_ite,Bool.and_eq_true] at h
  split at h
  ·rename_i hc
   cases h
   have:=isPol_ok g hc.1 r1
   subst this
   simp only [R] at r2
   obtain ⟨ptv,rfl,hpt⟩:=r2
   obtain ⟨u1,u2,u3,u4,u5,u6,u7,u8,u9,u10,u11,u12,e2,s1,s2,s10,s11,s12⟩:=RL12 hpt
   have hI:=hc.2.1
   simp only [allI,Bool.and_eq_true] at hI
   obtain ⟨cz,rfl⟩:=isI_ok hI.1 s1
   obtain ⟨bz,rfl,bz1,bz2⟩:=isIn_ok g hc.2.2.1 s10
   obtain ⟨b2z,rfl⟩:=isI_ok hI.2.2.1 s11
   obtain ⟨b3z,rfl⟩:=isI_ok hI.2.2.2.1 s12
   obtain ⟨zs,ezs,hzs⟩:=allB_ok hp g hc.2.2.2 s2
   match zs,ezs with
   | [q1,q2,q3,q4,q5,q6,q7,q8],ezs =>
    simp only [List.map_cons,List.map_nil,List.cons.injEq,and_true] at ezs
    obtain ⟨rfl,rfl,rfl,rfl,rfl,rfl,rfl,rfl⟩:=ezs
    have k1:=hzs q1 (by simp)
    have k2:=hzs q2 (by simp)
    have k3:=hzs q3 (by simp)
    have k4:=hzs q4 (by simp)
    have k5:=hzs q5 (by simp)
    have k6:=hzs q6 (by simp)
    have k7:=hzs q7 (by simp)
    have k8:=hzs q8 (by simp)
    have hm:=most_le hp
    rw [arr_of e2]
    have hrate:=hp.rate
    refine (pstep_any ⟨cz,q1,q2,q3,q4,q5,q6,q7,q8,⟨bz,b2z,b3z⟩⟩ pc w hp.ok hrate.1 hrate.2 (by simp only; omega) (by simp only; omega) (by simp only; omega) (by simp only; omega)).mono fun e w' he=>?_
    obtain ⟨rfl,hb⟩:=he
    obtain ⟨E',hle,hf,hG⟩:=four_ok hp (g.below hb) (z1:=toward q5 q1 (pI pc 54)) (z2:=toward q6 q2 (pI pc 54)) (z3:=toward q7 q3 (pI pc 54)) (z4:=toward q8 q4 (pI pc 54))
     (toward_in _ _ _ _ _ (by omega) k5.1 k5.2 k1.1 k1.2) (toward_in _ _ _ _ _ (by omega) k6.1 k6.2 k2.1 k2.2) (toward_in _ _ _ _ _ (by omega) k7.1 k7.2 k3.1 k3.2) (toward_in _ _ _ _ _ (by omega) k8.1 k8.2 k4.1 k4.2)
    refine ⟨_,List.mem_cons_self,E',_,hle,rfl,?_,hG⟩
    simp only [R]
    refine ⟨_,rfl,?_⟩
    have s2':=s2.mono hle
    simp only [RL_cons] at s2'
    obtain ⟨a1,a2,a3,a4,a5,a6,a7,a8,_⟩:=s2'
    refine RL_cons.2 ⟨s1.mono hle,RL_cons.2 ⟨a1,RL_cons.2 ⟨a2,RL_cons.2 ⟨a3,RL_cons.2 ⟨a4,RL_append (l:=four st.nid) hf (RL_cons.2 ⟨?_,RL_cons.2 ⟨?_,RL_cons.2 ⟨?_,by simp [RL]⟩⟩⟩)⟩⟩⟩⟩⟩
    ·simp only [Pt.step]
     split
     ·exact RU bz1 bz2
     ·exact RU (z:=4) (by omega) (by omega)
    ·simp only [Pt.step]
     split <;> exact s11.mono hle
    ·simp only [Pt.step]
     split <;> exact s12.mono hle
  ·cases h
 ·cases h
end SE
end
section
namespace SE
def mvI (f:Nat→Rn):SI→SI
 | .r lo hi=>.r lo hi
 | .a id=>match f id with
  | .z k=>.r k k
  | .nm j=>.a j
def mvC (f:Nat→Rn):SV→SV
 | .int k x=>.int k (mvI f x)
 | .cmp c id n=>match f id with
  | .z k=>ofB (cmpB c k n)
  | .nm j=>.cmp c j n
 | .ptr b o=>match f b with
  | .nm j=>.ptr j o
  | .z _=>.u
 | .sp i=>match f i with
  | .nm j=>.sp j
  | .z _=>.u
 | .sq i=>match f i with
  | .nm j=>.sq j
  | .z _=>.u
 | .slc b o l c=>match f b with
  | .nm j=>.slc j o l c
  | .z _=>.u
 | .sl i=>match f i with
  | .nm j=>.sl j
  | .z _=>.u
 | .mapv i=>match f i with
  | .nm j=>.mapv j
  | .z _=>.u
 | .agg _ | .tup _ | .func .. | .iface ..=>.u
 | x=>x
def mvL (f:Nat→Rn):List SV→List SV
 | []=>[]
 | x::l=>fC (mvC f x) fun x=>x::mvL f l
def mv2 (f:Nat→Rn):SV→SV
 | .agg l=>.agg (mvL f l)
 | x=>mvC f x
def mvVs (f:Nat→Rn):List SV→List SV
 | []=>[]
 | x::l=>mv2 f x::mvVs f l
def mvV (f:Nat→Rn):SV→SV
 | .agg l=>.agg (mvL f l)
 | .tup l=>.tup (mvVs f l)
 | .iface t v=>.iface t (mv2 f v)
 | x=>mvC f x
def mvB (f:Nat→Rn):Blk→Option Blk
 | .cells e cs=>some (.cells e (mvL f cs))
 | .row e sz sid cs=>match f sid with
  | .nm j=>some (.row e sz j (mvL f cs))
  | .z _=>none
 | .opq=>some .opq
 | _=>none
def mvH (f:Nat→Rn):List (Nat×Blk)→List (Nat×Blk)
 | []=>[]
 | (id,b)::l=>match f id,mvB f b with
  | .nm j,some b'=>(j,b')::mvH f l
  | _,_=>mvH f l
def mvT (f:Nat→Rn):List (Nat×Int×Int)→List (Nat×Int×Int)
 | []=>[]
 | (id,r)::l=>match f id with
  | .nm j=>(j,r)::mvT f l
  | .z _=>mvT f l
def mvSl (keepB:Bool) (f:Nat→Rn):SlI→Option SlI
 | .bytes x=>bif keepB then some (.bytes (mvI f x)) else none
 | .row b n=>match f b with
  | .nm j=>some (.row j n)
  | .z _=>none
 | .own b nm args=>match f b with
  | .nm j=>some (.own j nm (mvL f args))
  | .z _=>none
def mvS (keepB:Bool) (f:Nat→Rn):List (Nat×SlI)→List (Nat×SlI)
 | []=>[]
 | (id,s)::l=>match f id,mvSl keepB f s with
  | .nm j,some s'=>(j,s')::mvS keepB f l
  | _,_=>mvS keepB f l
def mvF (f:Nat→Rn):List (Nat×List SV)→List (Nat×List SV)
 | []=>[]
 | (k,l)::t=>(k,mvL f l)::mvF f t
def FE (f:Nat→Rn) (E1 E2:Env):Prop:=∀ id,match f id with
 | .z k=>E1 id=some (.z k)
 | .nm j=>E2 j=E1 id
variable {f:Nat→Rn} {E1 E2:Env}
theorem FE.nm (h:FE f E1 E2) {id j:Nat} (e:f id=.nm j):E2 j=E1 id:=by have:=h id; rw [e] at this; exact this
theorem FE.z (h:FE f E1 E2) {id:Nat} {k:Int} (e:f id=.z k):E1 id=some (.z k):=by have:=h id; rw [e] at this; exact this
theorem mvI_ok (h:FE f E1 E2) {x:SI} {z:Int} (hx:SIok E1 x z):SIok E2 (mvI f x) z:=by
 cases x with
 | r lo hi=>exact hx
 | a id =>
  simp only [SIok] at hx
  simp only [mvI]
  split
  ·rename_i k e
   rw [h.z e] at hx
   cases hx
   exact ⟨Int.le_refl _,Int.le_refl _⟩
  ·rename_i j e
   simp only [SIok]
   rw [h.nm e]
   exact hx
theorem mvC_ok (h:FE f E1 E2) {x:SV} {v:Value} (hx:R E1 x v):R E2 (mvC f x) v:=by
 cases x <;> simp only [mvC] <;> try (simp only [R] at hx ⊢; exact hx)
 case u=>simp only [R]
 case agg=>simp only [R]
 case tup=>simp only [R]
 case func=>simp only [R]
 case iface=>simp only [R]
 case int k x=>simp only [R] at hx ⊢; obtain ⟨z,hz,e⟩:=hx; exact ⟨z,mvI_ok h hz,e⟩
 case cmp c id n =>
  simp only [R] at hx
  obtain ⟨z,hz,rfl⟩:=hx
  split
  ·rename_i k e
   rw [h.z e] at hz
   cases hz
   rw [cmpB_eq]
   exact ofB_ok _
  ·rename_i j e
   simp only [R]
   exact ⟨z,by rw [h.nm e]; exact hz,rfl⟩
 case ptr b o =>
  simp only [R] at hx
  obtain ⟨n,hn,rfl⟩:=hx
  split
  ·rename_i j e; simp only [R]; exact ⟨n,by rw [h.nm e]; exact hn,rfl⟩
  ·simp only [R]
 case sp i =>
  simp only [R] at hx
  obtain ⟨a,l,c,hn,e1,rfl⟩:=hx
  split
  ·rename_i j e; simp only [R]; exact ⟨a,l,c,by rw [h.nm e]; exact hn,e1,rfl⟩
  ·simp only [R]
 case sq i =>
  simp only [R] at hx
  obtain ⟨a,l,c,m,hn,e1,e2,rfl⟩:=hx
  split
  ·rename_i j e; simp only [R]; exact ⟨a,l,c,m,by rw [h.nm e]; exact hn,e1,e2,rfl⟩
  ·simp only [R]
 case slc b o l c =>
  simp only [R] at hx
  obtain ⟨n,hn,rfl⟩:=hx
  split
  ·rename_i j e; simp only [R]; exact ⟨n,by rw [h.nm e]; exact hn,rfl⟩
  ·simp only [R]
 case sl i =>
  simp only [R] at hx
  obtain ⟨a,l,c,hn,rfl⟩:=hx
  split
  ·rename_i j e; simp only [R]; exact ⟨a,l,c,by rw [h.nm e]; exact hn,rfl⟩
  ·simp only [R]
 case mapv i =>
  simp only [R] at hx
  obtain ⟨n,hn,rfl⟩:=hx
  split
  ·rename_i j e; simp only [R]; exact ⟨n,by rw [h.nm e]; exact hn,rfl⟩
  ·simp only [R]
theorem mvL_ok (h:FE f E1 E2):∀ {l:List SV} {vs:List Value},RL E1 l vs→RL E2 (mvL f l) vs
 | [],vs,hr=>by rw [RL_nil.1 hr]; simp [mvL,RL]
 | x::l,[],hr=>by simp [RL] at hr
 | x::l,v::vs,hr=>by
  simp only [mvL,fC_eq]
  exact RL_cons.2 ⟨mvC_ok h (RL_cons.1 hr).1,mvL_ok h (RL_cons.1 hr).2⟩
theorem mvL_length (f:Nat→Rn):∀ l:List SV,(mvL f l).length=l.length
 | []=>rfl
 | x::l=>by simp only [mvL,fC_eq,List.length_cons,mvL_length f l]
theorem mv2_ok (h:FE f E1 E2) {x:SV} {v:Value} (hx:R E1 x v):R E2 (mv2 f x) v:=by
 cases x <;> simp only [mv2] <;> try exact mvC_ok h hx
 case agg l =>
  simp only [R] at hx ⊢
  obtain ⟨cs,e,hl⟩:=hx
  exact ⟨cs,e,mvL_ok h hl⟩
theorem mvVs_ok (h:FE f E1 E2):∀ {l:List SV} {vs:List Value},RL E1 l vs→RL E2 (mvVs f l) vs
 | [],vs,hr=>by rw [RL_nil.1 hr]; simp [mvVs,RL]
 | x::l,[],hr=>by simp [RL] at hr
 | x::l,v::vs,hr=>by
  simp only [mvVs]
  exact RL_cons.2 ⟨mv2_ok h (RL_cons.1 hr).1,mvVs_ok h (RL_cons.1 hr).2⟩
theorem mvV_ok (h:FE f E1 E2) {x:SV} {v:Value} (hx:R E1 x v):R E2 (mvV f x) v:=by
 cases x <;> simp only [mvV] <;> try exact mvC_ok h hx
 case agg l =>
  simp only [R] at hx ⊢
  obtain ⟨cs,e,hl⟩:=hx
  exact ⟨cs,e,mvL_ok h hl⟩
 case tup l =>
  simp only [R] at hx ⊢
  obtain ⟨cs,e,hl⟩:=hx
  exact ⟨cs,e,mvVs_ok h hl⟩
 case iface t x =>
  simp only [R] at hx ⊢
  obtain ⟨y,e,hy⟩:=hx
  exact ⟨y,e,mv2_ok h hy⟩
def inK' {α:Type} (l:List (Nat×α)) (k:Nat):Bool:=(lk l k).isSome
def nodupK {α:Type}:List (Nat×α)→Bool
 | []=>true
 | (i,_)::l=>!(inK' l i)&&nodupK l
theorem lk_mem {α:Type}:∀ {l:List (Nat×α)} {k:Nat} {x:α},lk l k=some x→(k,x)∈l
 | [],k,x,h=>by simp [lk] at h
 | (i,y)::l,k,x,h=>by
  rw [lk_cons] at h
  split at h
  ·rename_i e; subst e; cases h; exact List.mem_cons_self
  ·exact List.mem_cons_of_mem _ (lk_mem h)
theorem mem_lk_some {α:Type}:∀ {l:List (Nat×α)} {k:Nat} {x:α},(k,x)∈l→∃ y,lk l k=some y
 | (i,y)::l,k,x,h=>by
  rw [lk_cons]
  split
  ·exact ⟨y,rfl⟩
  ·rename_i e
   rcases List.mem_cons.1 h with h | h
   ·cases h; exact absurd rfl e
   ·exact mem_lk_some h
theorem mem_lk {α:Type}:∀ {l:List (Nat×α)} {k:Nat} {x:α},nodupK l=true→(k,x)∈l→lk l k=some x
 | (i,y)::l,k,x,hn,h=>by
  simp only [nodupK,Bool.and_eq_true,Bool.not_eq_true'] at hn
  rw [lk_cons]
  rcases List.mem_cons.1 h with h | h'
  ·cases h; rw [if_pos rfl]
  ·obtain ⟨z,hz⟩:=mem_lk_some h'
   split
   ·rename_i e
    have hn1:=hn.1
    simp only [inK'] at hn1
    rw [← e,hz] at hn1
    simp at hn1
   ·exact mem_lk hn.2 h'
theorem lk_append {α:Type}:∀ {l m:List (Nat×α)} {k:Nat} {x:α},lk (l++m) k=some x→lk l k=some x∨(lk l k=none∧lk m k=some x)
 | [],m,k,x,h=>.inr ⟨rfl,h⟩
 | (i,y)::l,m,k,x,h=>by
  rw [List.cons_append,lk_cons] at h
  rw [lk_cons]
  split at h
  ·rename_i e; rw [if_pos e]; exact .inl h
  ·rename_i e; rw [if_neg e]; exact lk_append h
theorem lk_append_l {α:Type}:∀ {l m:List (Nat×α)} {k:Nat} {x:α},lk l k=some x→lk (l++m) k=some x
 | (i,y)::l,m,k,x,h=>by
  rw [List.cons_append,lk_cons]
  rw [lk_cons] at h
  split at h
  ·rename_i e; rw [if_pos e]; exact h
  ·rename_i e; rw [if_neg e]; exact lk_append_l h
 | [],m,k,x,h=>by simp [lk] at h
theorem lk_append_r {α:Type}:∀ {l m:List (Nat×α)} {k:Nat} {x:α},lk l k=none→lk m k=some x→lk (l++m) k=some x
 | (i,y)::l,m,k,x,h,h'=>by
  rw [List.cons_append,lk_cons]
  rw [lk_cons] at h
  split at h
  ·cases h
  ·rename_i e; rw [if_neg e]; exact lk_append_r h h'
 | [],m,k,x,h,h'=>h'
theorem mvH_mem:∀ {l:List (Nat×Blk)} {j:Nat} {b':Blk},(j,b')∈mvH f l→∃ id b,(id,b)∈l∧f id=.nm j∧mvB f b=some b'
 | (id,b)::l,j,b',h=>by
  simp only [mvH] at h
  split at h
  ·rename_i j' b'' e1 e2
   rcases List.mem_cons.1 h with h | h
   ·cases h; exact ⟨id,b,List.mem_cons_self,e1,e2⟩
   ·obtain ⟨i,b,h1,h2⟩:=mvH_mem h; exact ⟨i,b,List.mem_cons_of_mem _ h1,h2⟩
  ·obtain ⟨i,b,h1,h2⟩:=mvH_mem h; exact ⟨i,b,List.mem_cons_of_mem _ h1,h2⟩
theorem mvH_in:∀ {l:List (Nat×Blk)} {id j:Nat} {b b':Blk},(id,b)∈l→f id=.nm j→mvB f b=some b'→(j,b')∈mvH f l
 | (i,c)::l,id,j,b,b',h,e1,e2=>by
  simp only [mvH]
  rcases List.mem_cons.1 h with h | h
  ·cases h
   rw [e1,e2]
   exact List.mem_cons_self
  ·have:=mvH_in h e1 e2
   split
   ·exact List.mem_cons_of_mem _ this
   ·exact this
theorem mvT_mem:∀ {l:List (Nat×Int×Int)} {j:Nat} {r:Int×Int},(j,r)∈mvT f l→∃ id,(id,r)∈l∧f id=.nm j
 | (id,b)::l,j,b',h=>by
  simp only [mvT] at h
  split at h
  ·rename_i j' e1
   rcases List.mem_cons.1 h with h | h
   ·cases h; exact ⟨id,List.mem_cons_self,e1⟩
   ·obtain ⟨i,h1,h2⟩:=mvT_mem h; exact ⟨i,List.mem_cons_of_mem _ h1,h2⟩
  ·obtain ⟨i,h1,h2⟩:=mvT_mem h; exact ⟨i,List.mem_cons_of_mem _ h1,h2⟩
theorem mvS_mem {keepB:Bool}:∀ {l:List (Nat×SlI)} {j:Nat} {s':SlI},(j,s')∈mvS keepB f l→∃ id s,(id,s)∈l∧f id=.nm j∧mvSl keepB f s=some s'
 | (id,b)::l,j,b',h=>by
  simp only [mvS] at h
  split at h
  ·rename_i j' b'' e1 e2
   rcases List.mem_cons.1 h with h | h
   ·cases h; exact ⟨id,b,List.mem_cons_self,e1,e2⟩
   ·obtain ⟨i,b,h1,h2⟩:=mvS_mem h; exact ⟨i,b,List.mem_cons_of_mem _ h1,h2⟩
  ·obtain ⟨i,b,h1,h2⟩:=mvS_mem h; exact ⟨i,b,List.mem_cons_of_mem _ h1,h2⟩
theorem mvF_mem:∀ {l:List (Nat×List SV)} {x:Nat×List SV},x∈mvF f l→∃ y∈l,x=(y.1,mvL f y.2)
 | (k,l')::l,x,h=>by
  simp only [mvF] at h
  rcases List.mem_cons.1 h with h | h
  ·exact ⟨(k,l'),List.mem_cons_self,h⟩
  ·obtain ⟨y,h1,h2⟩:=mvF_mem h; exact ⟨y,List.mem_cons_of_mem _ h1,h2⟩
end SE
end
section
namespace SE
variable {X:Px} {own0:Nat→Prop} {w0 w:World} {E:Env} {st S:SE.St}
def isLive:Blk→Bool
 | .opq=>false
 | _=>true
def hasA (j:Nat):List SV→Bool
 | []=>false
 | .int _ (.a i)::l=>Nat.beq i j||hasA j l
 | _::l=>hasA j l
def inFacts (j:Nat):List (Nat×List SV)→Bool
 | []=>false
 | x::l=>hasA j x.2||inFacts j l
def liveN (st:SE.St) (j:Nat):Bool :=
 (lk st.tab j).isSome||((lk st.sls j).isSome||((match lk st.heap j with
  | some b=>isLive b
  | none=>false)||inFacts j st.facts))
def resR (st:SE.St):List (Nat×Rn)→List (Nat×Rn)
 | []=>[]
 | (i,.z k)::l=>(i,.z k)::resR st l
 | (i,.nm j)::l=>(bif liveN st j then (i,.nm j) else fN (st.nid+i) fun n=>(i,.nm n))::resR st l
def toF (rr:List (Nat×Rn)) (base id:Nat):Rn :=
 match lk rr id with
 | some r=>r
 | none=>fN (base+id) fun n=>.nm n
def imgsOf (ren:List (Nat×Rn)):List (Nat×Blk)→List Nat
 | []=>[]
 | (id,b)::l=>bif b.isRo then imgsOf ren l else (match lk ren id with
  | some (.nm j)=>j::imgsOf ren l
  | _=>imgsOf ren l)
def restH (im:List Nat):List (Nat×Blk)→List (Nat×Blk)
 | []=>[]
 | (id,b)::l=>bif hasN im id then restH im l else (id,b)::restH im l
def deadS (im:List Nat):List (Nat×SlI)→List Nat
 | []=>[]
 | (id,.own b _ _)::l=>bif hasN im b then id::deadS im l else deadS im l
 | _::l=>deadS im l
def restS (dead:List Nat):List (Nat×SlI)→List (Nat×SlI)
 | []=>[]
 | (id,b)::l=>bif hasN dead id then restS dead l else (id,b)::restS dead l
def emL {α:Type} (keep:Bool) (l:List α):List α:=bif keep then l else []
def place (keep:Bool) (st S:SE.St) (ren:List (Nat×Rn)) (o:SV×SE.St):SV×SE.St :=
 (fun f=>(fun im=>(mvV f o.1,
  { heap:=mvH f o.2.heap++emL keep (restH im st.heap)
    tab:=mvT f o.2.tab++emL keep st.tab
    sls:=mvS (!keep) f o.2.sls++emL keep (restS (deadS im st.sls) st.sls)
    nid:=st.nid+o.2.nid
    facts:=mvF f o.2.facts++emL keep st.facts })) (imgsOf ren S.heap)) (toF (resR st ren) st.nid)
theorem lk_resR:∀ {l:List (Nat×Rn)} {id:Nat},lk (resR st l) id=(match lk l id with
  | some (.z k)=>some (.z k)
  | some (.nm j)=>some (bif liveN st j then .nm j else .nm (st.nid+id))
  | none=>none)
 | [],id=>rfl
 | (i,.z k)::l,id=>by
  simp only [resR,lk_cons]
  split
  ·rfl
  ·exact lk_resR
 | (i,.nm j)::l,id=>by
  simp only [resR]
  cases hb:liveN st j with
  | true =>
   simp only [cond_true,lk_cons]
   split
   ·simp only [hb,cond_true]
   ·exact lk_resR
  | false =>
   simp only [cond_false,fN_eq,lk_cons]
   split
   ·rename_i e; simp only [hb,cond_false,e]
   ·exact lk_resR
theorem toF_eq {ren:List (Nat×Rn)} {id:Nat}:toF (resR st ren) st.nid id=(match lk ren id with
  | some (.z k)=>.z k
  | some (.nm j)=>bif liveN st j then .nm j else .nm (st.nid+id)
  | none=>.nm (st.nid+id)):=by
 unfold toF
 rw [lk_resR]
 cases lk ren id with
 | none=>simp only [fN_eq]
 | some r=>cases r <;> rfl
theorem hasA_some {E:Env} {j:Nat}:∀ {l:List SV} {vs:List Value},hasA j l=true→RL E l vs→∃ y,E j=some y
 | [],vs,h,_=>by simp [hasA] at h
 | x::l,[],h,hr=>by simp [RL] at hr
 | x::l,v::vs,h,hr=>by
  obtain ⟨h1,h2⟩:=RL_cons.1 hr
  unfold hasA at h
  split at h
  ·cases h
  ·rename_i k i l' e
   cases e
   simp only [Bool.or_eq_true] at h
   rcases h with h | h
   ·have:=nbeq h
    subst this
    simp only [R,SIok] at h1
    obtain ⟨z,hz,_⟩:=h1
    exact ⟨_,hz⟩
   ·exact hasA_some h h2
  ·rename_i x' l' _ e
   cases e
   exact hasA_some h h2
theorem inFacts_mem {j:Nat}:∀ {l:List (Nat×List SV)},inFacts j l=true→∃ x∈l,hasA j x.2=true
 | x::l,h=>by
  simp only [inFacts,Bool.or_eq_true] at h
  rcases h with h | h
  ·exact ⟨x,List.mem_cons_self,h⟩
  ·obtain ⟨y,hy,r⟩:=inFacts_mem h
   exact ⟨y,List.mem_cons_of_mem _ hy,r⟩
theorem liveN_some (g:G X own0 w0 E st w) {j:Nat} (h:liveN st j=true):∃ y,E j=some y:=by
 simp only [liveN,Bool.or_eq_true] at h
 rcases h with h | h | h | h
 rotate_left 3
 ·obtain ⟨x,hx,ha⟩:=inFacts_mem h
  obtain ⟨vs,hr,_⟩:=g.facts x hx
  exact hasA_some ha hr
 ·obtain ⟨⟨lo,hi⟩,hl⟩:=Option.isSome_iff_exists.1 h
  obtain ⟨z,hz,_⟩:=g.tab j lo hi hl
  exact ⟨_,hz⟩
 ·obtain ⟨i,hl⟩:=Option.isSome_iff_exists.1 h
  have:=g.sls j i hl
  cases i with
  | bytes len=>obtain ⟨b,l,c,h1,_⟩:=this; exact ⟨_,h1⟩
  | row b len=>obtain ⟨n,c,_,h1⟩:=this; exact ⟨_,h1⟩
  | own b nm args=>obtain ⟨_,b,l,c,vs,h1,_⟩:=this; exact ⟨_,h1⟩
 ·split at h
  ·rename_i b hl
   rcases g.heap j b hl with ⟨e,_⟩ | ⟨n,h1,_⟩
   ·rw [e] at h; cases h
   ·exact ⟨_,h1⟩
  ·cases h
def placeE (E E1:Env) (base:Nat):Env:=fun j=>if j<base then E j else E1 (j - base)
theorem rnf0 (ren:List (Nat×Rn)) (id:Nat):rnf ⟨0,ren⟩ id=lk ren id:=by
 simp only [rnf]
 cases lk ren id with
 | some r=>rfl
 | none =>
  have:Nat.blt id 0=false:=by
   cases hb:Nat.blt id 0 with
   | false=>rfl
   | true=>have:=Nat.le_of_ble_eq_true hb; omega
  simp only [this,cond_false]
theorem place_FE (g:G X own0 w0 E st w) {ren:List (Nat×Rn)} {E1:Env} (hle:(envOf ⟨0,ren⟩ E).le E1):FE (toF (resR st ren) st.nid) E1 (placeE E E1 st.nid):=by
 intro id
 have hnew:placeE E E1 st.nid (st.nid+id)=E1 id:=by
  simp only [placeE]
  rw [if_neg (by omega),show st.nid+id - st.nid=id by omega]
 rw [toF_eq]
 cases hl:lk ren id with
 | none=>exact hnew
 | some r =>
  cases r with
  | z k=>exact hle id _ (by simp only [envOf,rnf0,hl])
  | nm j =>
   cases hv:liveN st j with
   | false=>simp only [hv,cond_false]; exact hnew
   | true =>
    simp only [hv,cond_true]
    obtain ⟨y,hy⟩:=liveN_some g hv
    have hj:j<st.nid:=Nat.lt_of_not_le fun hn=>by rw [g.dom j hn] at hy; cases hy
    have:=hle id y (by simp only [envOf,rnf0,hl]; exact hy)
    simp only [placeE]
    rw [if_pos hj,hy,this]
theorem imgs_mem {ren:List (Nat×Rn)} {j:Nat}:∀ {l:List (Nat×Blk)},j∈imgsOf ren l↔∃ id b,(id,b)∈l∧b.isRo=false∧lk ren id=some (.nm j)
 | []=>by simp [imgsOf]
 | (i,b)::l=>by
  have ih:=imgs_mem (ren:=ren) (j:=j) (l:=l)
  simp only [imgsOf]
  cases hb:b.isRo with
  | true =>
   simp only [cond_true,ih]
   constructor
   ·rintro ⟨id,c,h1,h2⟩; exact ⟨id,c,List.mem_cons_of_mem _ h1,h2⟩
   ·rintro ⟨id,c,h1,h2,h3⟩
    rcases List.mem_cons.1 h1 with h1 | h1
    ·cases h1; rw [hb] at h2; cases h2
    ·exact ⟨id,c,h1,h2,h3⟩
  | false =>
   simp only [cond_false]
   split
   ·rename_i k hk
    rw [List.mem_cons,ih]
    constructor
    ·rintro (h | ⟨id,c,h1,h2⟩)
     ·subst h; exact ⟨i,b,List.mem_cons_self,hb,hk⟩
     ·exact ⟨id,c,List.mem_cons_of_mem _ h1,h2⟩
    ·rintro ⟨id,c,h1,h2,h3⟩
     rcases List.mem_cons.1 h1 with h1 | h1
     ·cases h1; rw [hk] at h3; cases h3; exact .inl rfl
     ·exact .inr ⟨id,c,h1,h2,h3⟩
   ·rename_i hne
    rw [ih]
    constructor
    ·rintro ⟨id,c,h1,h2⟩; exact ⟨id,c,List.mem_cons_of_mem _ h1,h2⟩
    ·rintro ⟨id,c,h1,h2,h3⟩
     rcases List.mem_cons.1 h1 with h1 | h1
     ·cases h1; exact absurd h3 (hne j)
     ·exact ⟨id,c,h1,h2,h3⟩
theorem lk_restH {im:List Nat}:∀ {l:List (Nat×Blk)} {id:Nat},lk (restH im l) id=(bif hasN im id then none else lk l id)
 | [],id=>by cases hasN im id <;> rfl
 | (i,b)::l,id=>by
  simp only [restH]
  cases hb:hasN im i with
  | true =>
   simp only [cond_true,lk_restH,lk_cons]
   split
   ·rename_i e; rw [e,hb]; rfl
   ·rfl
  | false =>
   simp only [cond_false,lk_cons,lk_restH]
   split
   ·rename_i e; rw [e,hb]; rfl
   ·rfl
theorem lk_restS {im:List Nat}:∀ {l:List (Nat×SlI)} {id:Nat},lk (restS im l) id=(bif hasN im id then none else lk l id)
 | [],id=>by cases hasN im id <;> rfl
 | (i,b)::l,id=>by
  simp only [restS]
  cases hb:hasN im i with
  | true =>
   simp only [cond_true,lk_restS,lk_cons]
   split
   ·rename_i e; rw [e,hb]; rfl
   ·rfl
  | false =>
   simp only [cond_false,lk_cons,lk_restS]
   split
   ·rename_i e; rw [e,hb]; rfl
   ·rfl
theorem deadS_mem {im:List Nat} {id b nm:Nat} {args:List SV}:∀ {l:List (Nat×SlI)},(id,SlI.own b nm args)∈l→hasN im b=true→id∈deadS im l
 | (i,s)::l,h,hb=>by
  rcases List.mem_cons.1 h with h | h
  ·cases h
   simp only [deadS,hb,cond_true]
   exact List.mem_cons_self
  ·have:=deadS_mem (im:=im) h hb
   cases s <;> simp only [deadS] <;> try exact this
   rename_i c n a
   cases hasN im c with
   | true=>exact List.mem_cons_of_mem _ this
   | false=>exact this
theorem lk_rest_own {im:List Nat} {l:List (Nat×SlI)} {id:Nat} {s:SlI} (h:lk (restS (deadS im l) l) id=some s):lk l id=some s∧∀ b nm args,s=.own b nm args→hasN im b=false:=by
 rw [lk_restS] at h
 cases hd:hasN (deadS im l) id with
 | true=>rw [hd] at h; cases h
 | false =>
  rw [hd] at h
  simp only [cond_false] at h
  refine ⟨h,fun b nm args e=>?_⟩
  subst e
  cases hb:hasN im b with
  | false=>rfl
  | true =>
   have:=hasN_iff.2 (deadS_mem (lk_mem h) hb)
   rw [hd] at this
   cases this
def nodupSt (o:SE.St):Bool:=nodupK o.heap&&(nodupK o.tab&&nodupK o.sls)
theorem emL_lk {α:Type} {keep:Bool} {l:List (Nat×α)} {k:Nat} {x:α} (h:lk (emL keep l) k=some x):keep=true∧lk l k=some x:=by
 cases keep with
 | true=>exact ⟨rfl,h⟩
 | false=>simp [emL,lk] at h
theorem emL_mem {α:Type} {keep:Bool} {l:List α} {x:α} (h:x∈emL keep l):x∈l:=by
 cases keep with
 | true=>exact h
 | false=>simp [emL] at h
theorem place_ok (g:G X own0 w0 E st w) {Z:Nat→List SV→SE.St→Bool} {ren:List (Nat×Rn)} (hfit:fit S st Z ⟨0,ren⟩=true) (hgl:GlOk X) {E1:Env} {w1:World} {o:SV×SE.St} (keep:Bool)
  (hle:(envOf ⟨0,ren⟩ E).le E1) {x:Value} (hx:R E1 o.1 x) (hnd:nodupSt o.2=true)
  (g1:G X (fun n=>∃ id blk,lk S.heap id=some blk∧blk.isRo=false∧envOf ⟨0,ren⟩ E id=some (.blk n)) w E1 o.2 w1) :
  ∃ E2,E.le E2∧R E2 (place keep st S ren o).1 x∧G X own0 w0 E2 (place keep st S ren o).2 w1:=by
 have hfe:=place_FE g hle
 have hE:E.le (placeE E E1 st.nid):=fun id y hy=>by
  have:id<st.nid:=Nat.lt_of_not_le fun hn=>by rw [g.dom id hn] at hy; cases hy
  simp only [placeE,if_pos this]
  exact hy
 have hlow:∀ id,id<st.nid→placeE E E1 st.nid id=E id:=fun id h=>by simp only [placeE,if_pos h]
 refine ⟨placeE E E1 st.nid,hE,mvV_ok hfe hx,?_⟩
 have hfit':=hfit
 simp only [fit,Bool.and_eq_true] at hfit'
 obtain ⟨hH,-⟩:=hfit'
 simp only [nodupSt,Bool.and_eq_true] at hnd
 obtain ⟨nd1,nd2,nd3⟩:=hnd
 have hown:∀ n,(∃ id blk,lk S.heap id=some blk∧blk.isRo=false∧envOf ⟨0,ren⟩ E id=some (.blk n))→∃ j blk',j∈imgsOf ren S.heap∧lk st.heap j=some blk'∧E j=some (.blk n)∧blk'.isRo=false:=by
  rintro n ⟨id,blk,h1,h2,h3⟩
  obtain ⟨j,blk',k0,k1,k2,k3⟩:=fitH_ok hH h1
  have hEj:E j=some (.blk n):=by
   have:envOf ⟨0,ren⟩ E id=E j:=by simp only [envOf,k1]
   rw [← this]; exact h3
  rw [rnf0] at k1
  refine ⟨j,blk',imgs_mem.2 ⟨id,blk,lk_mem h1,h2,k1⟩,k2,hEj,?_⟩
  cases blk <;> cases blk' <;> simp [instB,Blk.isRo] at k3 h2 ⊢
 have hno:∀ n id b,lk st.heap id=some b→E id=some (.blk n)→id ∉ imgsOf ren S.heap→¬ ∃ id blk,lk S.heap id=some blk∧blk.isRo=false∧envOf ⟨0,ren⟩ E id=some (.blk n):=by
  intro n id b hl hb hi hc
  obtain ⟨j,blk',j1,j2,j3,j4⟩:=hown n hc
  have:=g.inj j id blk' b n j2 hl j3 hb
  subst this
  exact hi j1
 have hrest:∀ id b,lk (restH (imgsOf ren S.heap) st.heap) id=some b→lk st.heap id=some b∧id ∉ imgsOf ren S.heap:=by
  intro id b hl
  rw [lk_restH] at hl
  cases hh:hasN (imgsOf ren S.heap) id with
  | true=>rw [hh] at hl; cases hl
  | false =>
   rw [hh] at hl
   exact ⟨hl,fun hm=>by rw [hasN_iff.2 hm] at hh; cases hh⟩
 have hsame:∀ n,n<w.heap.size→(¬ ∃ id blk,lk S.heap id=some blk∧blk.isRo=false∧envOf ⟨0,ren⟩ E id=some (.blk n))→w1.heap[n]?=w.heap[n]?:=fun n h1 h2=>g1.frame n h1 h2
 have hor:∀ n,(∃ id blk,lk S.heap id=some blk∧blk.isRo=false∧envOf ⟨0,ren⟩ E id=some (.blk n))∨w.heap.size≤n→own0 n∨w0.heap.size≤n:=by
  rintro n (h | h)
  ·obtain ⟨j,blk',j1,j2,j3,j4⟩:=hown n h
   rcases (g.hown j2 j3).2 with h | h
   ·rw [j4] at h; cases h
   ·exact h
  ·exact .inr (Nat.le_trans g.size h)
 have hmv:∀ j b',lk (mvH (toF (resR st ren) st.nid) o.2.heap) j=some b'→∃ id b,lk o.2.heap id=some b∧toF (resR st ren) st.nid id=.nm j∧mvB (toF (resR st ren) st.nid) b=some b':=by
  intro j b' hl
  obtain ⟨id,b,h1,h2,h3⟩:=mvH_mem (lk_mem hl)
  exact ⟨id,b,mem_lk nd1 h1,h2,h3⟩
 have hmvE:∀ {id j:Nat},toF (resR st ren) st.nid id=.nm j→placeE E E1 st.nid j=E1 id:=fun e=>hfe.nm e
 have hnro:∀ {b b':Blk},mvB (toF (resR st ren) st.nid) b=some b'→b.isRo=false:=by
  intro b b' h
  cases b <;> simp [mvB] at h ⊢ <;> rfl
 have hmix:∀ j id b b2 n,lk o.2.heap id=some b→b.isRo=false→toF (resR st ren) st.nid id=.nm j→E1 id=some (.blk n)→∀ id2,lk st.heap id2=some b2→id2 ∉ imgsOf ren S.heap→E id2≠some (.blk n):=by
  intro j id b b2 n h1 hb h2 h3 id2 h4 h5 h6
  obtain ⟨k1,k2⟩:=g1.hown h1 h3
  rcases k2 with k2 | k2 | k2
  ·rw [hb] at k2; cases k2
  ·exact hno n id2 b2 h4 h6 h5 k2
  ·have:=(g.hown h4 h6).1
   omega
 refine ⟨Nat.le_trans g.size g1.size,g1.os.trans g.os,g1.tape.trans g.tape,g1.output.trans g.output,?_,?_,?_,?_,?_,?_,?_,?_⟩
 ·
  intro n hn hno0
  have hnw:n<w.heap.size:=Nat.lt_of_lt_of_le hn g.size
  rw [hsame n hnw (fun hc=>by rcases hor n (.inl hc) with h | h; exact hno0 h; omega)]
  exact g.frame n hn hno0
 ·
  intro j b' hl
  rcases lk_append hl with hl | ⟨-,hl⟩
  ·obtain ⟨id,b,h1,h2,h3⟩:=hmv j b' hl
   have hjn:j<st.nid+o.2.nid:=by
    have hid:=g1.hid h1
    rw [toF_eq] at h2
    split at h2
    ·cases h2
    ·rename_i jj hj
     cases hv:liveN st jj with
     | true =>
      rw [hv] at h2
      simp only [cond_true] at h2
      cases h2
      obtain ⟨y,hy⟩:=liveN_some g hv
      have:j<st.nid:=Nat.lt_of_not_le fun hn=>by rw [g.dom j hn] at hy; cases hy
      omega
     | false=>rw [hv] at h2; simp only [cond_false] at h2; cases h2; omega
    ·cases h2; omega
   rcases g1.heap id b h1 with ⟨e,q1,q2⟩ | ⟨n,q1,q2,q3,q4⟩
   ·subst e
    simp only [mvB] at h3
    cases h3
    exact .inl ⟨rfl,hjn,fun n hn=>by
     rw [hmvE h2] at hn
     exact ⟨(q2 n hn).1,hor n (q2 n hn).2⟩⟩
   ·refine .inr ⟨n,by rw [hmvE h2]; exact q1,q2,?_,?_⟩
    ·rcases q3 with q3 | q3
     ·rw [hnro h3] at q3; cases q3
     ·exact .inr (hor n q3)
    ·cases b <;> simp only [mvB] at h3 <;> try cases h3
     ·obtain ⟨vs,r1,r2⟩:=q4
      exact ⟨vs,r1,mvL_ok hfe r2⟩
     ·rename_i e sz sid cs
      obtain ⟨vs,len,cap,r1,r2,r3,r4,r5,r6⟩:=q4
      split at h3
      ·rename_i jj hj
       cases h3
       refine ⟨vs,len,cap,r1,by rw [hmvE hj]; exact r2,r3,by rw [mvL_length]; exact r4,r5,?_⟩
       rw [mvL_length]
       exact mvL_ok hfe r6
      ·cases h3
     ·trivial
  ·obtain ⟨-,hl⟩:=emL_lk hl
   obtain ⟨h1,h2⟩:=hrest j b' hl
   have hj:=g.hid h1
   rcases g.heap j b' h1 with ⟨e,q1,q2⟩ | ⟨n,q1,q2,q3,q4⟩
   ·exact .inl ⟨e,Nat.lt_of_lt_of_le hj (Nat.le_add_right _ _),fun n hn=>by
     rw [hlow j hj] at hn
     exact ⟨Nat.lt_of_lt_of_le (q2 n hn).1 g1.size,(q2 n hn).2⟩⟩
   ·refine .inr ⟨n,hE _ _ q1,Nat.lt_of_lt_of_le q2 g1.size,q3,?_⟩
    have hs:=hsame n q2 (hno n j b' h1 q1 h2)
    refine BlkOk.mono hE ?_
    cases b' with
    | cells e cs=>obtain ⟨vs,r1,r2⟩:=q4; exact ⟨vs,by rw [hs]; exact r1,r2⟩
    | row e sz sid cs=>obtain ⟨vs,len,cap,r1,r2⟩:=q4; exact ⟨vs,len,cap,by rw [hs]; exact r1,r2⟩
    | map es=>obtain ⟨ms,c,r1,r2⟩:=q4; exact ⟨ms,c,by rw [hs]; exact r1,r2⟩
    | opq=>trivial
    | ro e cs=>obtain ⟨vs,r1,r2⟩:=q4; exact ⟨vs,by rw [hs]; exact r1,r2⟩
    | res nm xs args=>exact q4
 ·
  intro j j' b b' n h1 h2 h3 h4
  rcases lk_append h1 with h1 | ⟨-,h1⟩ <;> rcases lk_append h2 with h2 | ⟨-,h2⟩
  ·obtain ⟨id,c,p1,p2,p3⟩:=hmv j b h1
   obtain ⟨id',c',q1,q2,q3⟩:=hmv j' b' h2
   rw [hmvE p2] at h3
   rw [hmvE q2] at h4
   have:=g1.inj id id' c c' n p1 q1 h3 h4
   subst this
   rw [p2] at q2
   cases q2
   rfl
  ·obtain ⟨id,c,p1,p2,p3⟩:=hmv j b h1
   obtain ⟨-,h2⟩:=emL_lk h2
   obtain ⟨q1,q2⟩:=hrest j' b' h2
   rw [hmvE p2] at h3
   rw [hlow j' (g.hid q1)] at h4
   exact absurd h4 (hmix j id c b' n p1 (hnro p3) p2 h3 j' q1 q2)
  ·obtain ⟨id,c,p1,p2,p3⟩:=hmv j' b' h2
   obtain ⟨-,h1⟩:=emL_lk h1
   obtain ⟨q1,q2⟩:=hrest j b h1
   rw [hmvE p2] at h4
   rw [hlow j (g.hid q1)] at h3
   exact absurd h3 (hmix j' id c b n p1 (hnro p3) p2 h4 j q1 q2)
  ·obtain ⟨-,h1⟩:=emL_lk h1
   obtain ⟨-,h2⟩:=emL_lk h2
   obtain ⟨p1,p2⟩:=hrest j b h1
   obtain ⟨q1,q2⟩:=hrest j' b' h2
   rw [hlow j (g.hid p1)] at h3
   rw [hlow j' (g.hid q1)] at h4
   exact g.inj j j' b b' n p1 q1 h3 h4
 ·
  intro j lo hi hl
  rcases lk_append hl with hl | ⟨-,hl⟩
  ·obtain ⟨id,h1,h2⟩:=mvT_mem (lk_mem hl)
   obtain ⟨z,q1,q2⟩:=g1.tab id lo hi (mem_lk nd2 h1)
   exact ⟨z,by rw [hmvE h2]; exact q1,q2⟩
  ·obtain ⟨-,hl⟩:=emL_lk hl
   obtain ⟨z,q1,q2⟩:=g.tab j lo hi hl
   exact ⟨z,hE _ _ q1,q2⟩
 ·
  intro j s' hl
  have hopq:∀ b jb,lk o.2.heap b=some .opq→toF (resR st ren) st.nid b=.nm jb→lk (mvH (toF (resR st ren) st.nid) o.2.heap++emL keep (restH (imgsOf ren S.heap) st.heap)) jb=some .opq:=by
   intro b jb hb hj
   have hin:=mvH_in (lk_mem hb) hj (b':=.opq) rfl
   obtain ⟨y,hy⟩:=mem_lk_some hin
   have:y=.opq:=by
    obtain ⟨id,c,h1,h2,h3⟩:=hmv jb y hy
    rcases g1.heap id c h1 with ⟨e,_⟩ | ⟨n,q1,_⟩
    ·subst e; simp only [mvB] at h3; cases h3; rfl
    ·have e1:=hmvE h2
     rw [hmvE hj,q1] at e1
     have:=g1.inj b id _ _ n hb h1 e1 q1
     subst this
     rw [hb] at h1
     cases h1
     simp only [mvB] at h3
     cases h3
     rfl
   rw [this] at hy
   exact lk_append_l hy
  rcases lk_append hl with hl | ⟨-,hl⟩
  ·obtain ⟨id,s,h1,h2,h3⟩:=mvS_mem (lk_mem hl)
   have hs:=g1.sls id s (mem_lk nd3 h1)
   cases s with
   | bytes len =>
    cases keep with
    | true=>simp [mvSl] at h3
    | false =>
     simp only [mvSl,Bool.not_false,cond_true] at h3
     cases h3
     obtain ⟨base,ln,cap,k1,k2,k3,k4,k5⟩:=hs
     refine ⟨base,ln,cap,by rw [hmvE h2]; exact k1,mvI_ok hfe k2,k3,k4,fun x hx=>⟨(k5 x hx).1,fun bid blk hb hc=>?_⟩⟩
     rcases lk_append hb with hb | ⟨-,hb⟩
     ·obtain ⟨id',c,p1,p2,p3⟩:=hmv bid blk hb
      rw [hmvE p2] at hc
      exact (k5 x hx).2 id' c p1 hc
     ·simp [emL,lk] at hb
   | row b len =>
    simp only [mvSl] at h3
    split at h3
    ·rename_i jb hj
     cases h3
     obtain ⟨n,cap,k1,k2⟩:=hs
     exact ⟨n,cap,by rw [hmvE hj]; exact k1,by rw [hmvE h2]; exact k2⟩
    ·cases h3
   | own b nm args =>
    simp only [mvSl] at h3
    split at h3
    ·rename_i jb hj
     cases h3
     obtain ⟨k0,base,ln,cap,vs,k1,k2,k3,k4⟩:=hs
     exact ⟨hopq b jb k0 hj,base,ln,cap,vs,by rw [hmvE h2]; exact k1,mvL_ok hfe k2,fun x hx=>by rw [hmvE hj]; exact k3 x hx,k4⟩
    ·cases h3
  ·obtain ⟨-,hl⟩:=emL_lk hl
   obtain ⟨h1,h2⟩:=lk_rest_own hl
   have hs:=g.sls j s' h1
   cases s' with
   | bytes len =>
    obtain ⟨base,ln,cap,k1,k2,k3,k4,k5⟩:=hs
    have hnown:∀ x,base=some x→¬ ∃ id blk,lk S.heap id=some blk∧blk.isRo=false∧envOf ⟨0,ren⟩ E id=some (.blk x.block):=by
     intro x hx hc
     obtain ⟨j',blk',j1,j2,j3,j4⟩:=hown _ hc
     exact (k5 x hx).2 j' blk' j2 j3
    refine ⟨base,ln,cap,hE _ _ k1,k2.mono hE,k3,?_,fun x hx=>⟨Nat.lt_of_lt_of_le (k5 x hx).1 g1.size,fun bid blk hb hc=>?_⟩⟩
    ·cases base with
     | none=>exact k4
     | some p =>
      obtain ⟨r1,vs,e,fr,r2,r3⟩:=k4
      exact ⟨r1,vs,e,fr,by rw [hsame _ (k5 p rfl).1 (hnown p rfl)]; exact r2,r3⟩
    ·rcases lk_append hb with hb | ⟨-,hb⟩
     ·obtain ⟨id',c,p1,p2,p3⟩:=hmv bid blk hb
      rw [hmvE p2] at hc
      rcases (g1.hown p1 hc).2 with q | q | q
      ·rw [hnro p3] at q; cases q
      ·exact hnown x hx q
      ·have:=(k5 x hx).1; omega
     ·obtain ⟨-,hb⟩:=emL_lk hb
      obtain ⟨p1,p2⟩:=hrest bid blk hb
      rw [hlow bid (g.hid p1)] at hc
      exact (k5 x hx).2 bid blk p1 hc
   | row b len =>
    obtain ⟨n,cap,k1,k2⟩:=hs
    exact ⟨n,cap,hE _ _ k1,hE _ _ k2⟩
   | own b nm args =>
    obtain ⟨k0,base,ln,cap,vs,k1,k2,k3,k4⟩:=hs
    have hbi:b ∉ imgsOf ren S.heap:=fun hm=>by
     have:=h2 b nm args rfl
     rw [hasN_iff.2 hm] at this
     cases this
    refine ⟨?_,base,ln,cap,vs,hE _ _ k1,k2.mono hE,fun x hx=>hE _ _ (k3 x hx),?_⟩
    ·cases hk:keep with
     | false=>subst hk; simp [emL,lk] at hl
     | true =>
      have hr:lk (emL true (restH (imgsOf ren S.heap) st.heap)) b=some .opq:=by
       simp only [emL,cond_true]
       rw [lk_restH]
       cases hh:hasN (imgsOf ren S.heap) b with
       | true=>exact absurd (hasN_iff.1 hh) hbi
       | false=>exact k0
      cases hm:lk (mvH (toF (resR st ren) st.nid) o.2.heap) b with
      | none=>exact lk_append_r hm hr
      | some y =>
       have:y=.opq:=by
        obtain ⟨id,c,p1,p2,p3⟩:=hmv b y hm
        rcases g1.heap id c p1 with ⟨e,_⟩ | ⟨n,q1,_⟩
        ·subst e; simp only [mvB] at p3; cases p3; rfl
        ·have e1:=hmvE p2
         rw [hlow b (g.hid k0),q1] at e1
         exact absurd e1 (hmix b id c .opq n p1 (hnro p3) p2 q1 b k0 hbi)
       rw [this] at hm
       exact lk_append_l hm
    ·cases base with
     | none=>exact k4
     | some x =>
      simp only [Option.bind_some] at k4 ⊢
      have hb:=g.hown k0 (k3 x rfl)
      rw [hsame _ hb.1 (hno _ b _ k0 (k3 x rfl) hbi)]
      exact k4
 ·
  intro id hid
  have hid':st.nid+o.2.nid≤id:=hid
  simp only [placeE]
  rw [if_neg (by omega)]
  exact g1.dom _ (by omega)
 ·
  intro gg cs hg
  obtain ⟨k1,k2,vs,e,fr,k3,k4⟩:=g1.gl gg cs hg
  refine ⟨k1,fun id blk hl hc=>?_,vs,e,fr,k3,hgl gg cs hg _ _ _ k4⟩
  rcases lk_append hl with hl | ⟨-,hl⟩
  ·obtain ⟨id',c,p1,p2,p3⟩:=hmv id blk hl
   rw [hmvE p2] at hc
   exact k2 id' c p1 hc
  ·obtain ⟨-,hl⟩:=emL_lk hl
   obtain ⟨p1,p2⟩:=hrest id blk hl
   rw [hlow id (g.hid p1)] at hc
   exact (g.gl gg cs hg).2.1 id blk p1 hc
 ·
  intro x hx
  rcases List.mem_append.1 hx with hx | hx
  ·obtain ⟨y,h1,rfl⟩:=mvF_mem hx
   obtain ⟨vs,q1,q2⟩:=g1.facts y h1
   exact ⟨vs,mvL_ok hfe q1,q2⟩
  ·obtain ⟨vs,q1,q2⟩:=g.facts x (emL_mem hx)
   exact ⟨vs,q1.mono hE,q2⟩
end SE
end
end Go.Proofs.YtdgejnakakjgfaaGreatDoor
