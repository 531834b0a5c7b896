/- The symbolic executor: whole code, calls. The tables of the seat's program for the symbolic executor: types, functions. PRINTED by gen_tab.py. -/
import Derived.Test.YtdgejnakakjgfaaGreatDoorProg
import Derived.Test.YtdgejnakakjgfaaGreatDoorQ06
import Derived.Test.YtdgejnakakjgfaaGreatDoorQ00
import Derived.LoopN
import Derived.Orders
set_option linter.unusedVariables false
set_option linter.unusedSimpArgs false
set_option maxRecDepth 100000
namespace Go.Proofs.YtdgejnakakjgfaaGreatDoor
section
namespace SE
variable {X:Px} {own0:Nat→Prop} {w0 w:World} {E:Env} {st:St} {tm:TT} {a:Act}
def exitOf:SE.X→Exit
  | .n=>.normal
  | .x id=>.exit id
  | .r=>.ret
def PostX (X:Px) (own0:Nat→Prop) (w0:World) (E:Env) (l:List (SE.X×Sx)) (Q:Exit→Act→World→Prop):Prop :=
  ∀ p∈l,∀ E' a' w',E.le E'→G X own0 w0 E' p.2.2 w'→FOk E' p.2.1 a'→Q (exitOf p.1) a' w'
theorem PostX.mono {l l':List (SE.X×Sx)} {E':Env} {Q:Exit→Act→World→Prop} (h:PostX X own0 w0 E l Q) (he:E.le E') (hl:∀ s∈l',s∈l):PostX X own0 w0 E' l' Q :=
  fun s hs E'' a' w' hle=>h s (hl s hs) E'' a' w' (Env.le_trans he hle)
theorem nrm_mem:∀ {l:List Sx} {s:Sx},s∈l→(SE.X.n,s)∈nrm l
  | x::l,s,h=>by
    rcases List.mem_cons.1 h with rfl | h
    · exact List.mem_cons_self
    · exact List.mem_cons_of_mem _ (nrm_mem h)
theorem thenL_mem {f:Sx→Option (List (SE.X×Sx))}:∀ {l r:List (SE.X×Sx)},thenL f l=some r→∀ e s,(e,s)∈l→(e=.n→∃ m,f s=some m∧∀ y∈m,y∈r)∧(e≠.n→(e,s)∈r)
  | (e',s')::l,r,h,e,s,hm=>by
    cases e' with
    | n =>
      simp only [thenL] at h
      cases h1:f s' with
      | none=>simp only [h1] at h; cases h
      | some m =>
        cases h2:thenL f l with
        | none=>simp only [h1,h2] at h; cases h
        | some n =>
          simp only [h1,h2,appS_eq,Option.some.injEq] at h
          subst h
          rcases List.mem_cons.1 hm with he | hm
          · cases he
            exact ⟨fun _=>⟨m,h1,fun y hy=>List.mem_append_left _ hy⟩,fun hne=>absurd rfl hne⟩
          · obtain ⟨k1,k2⟩:=thenL_mem h2 e s hm
            exact ⟨fun he=>let ⟨m',q1,q2⟩:=k1 he; ⟨m',q1,fun y hy=>List.mem_append_right _ (q2 y hy)⟩,fun he=>List.mem_append_right _ (k2 he)⟩
    | x id =>
      simp only [thenL] at h
      cases h2:thenL f l with
      | none=>simp only [h2] at h; cases h
      | some n =>
        simp only [h2,Option.some.injEq] at h
        subst h
        rcases List.mem_cons.1 hm with he | hm
        · cases he
          exact ⟨fun he=>(by cases he),fun _=>List.mem_cons_self⟩
        · obtain ⟨k1,k2⟩:=thenL_mem h2 e s hm
          exact ⟨fun he=>let ⟨m',q1,q2⟩:=k1 he; ⟨m',q1,fun y hy=>List.mem_cons_of_mem _ (q2 y hy)⟩,fun he=>List.mem_cons_of_mem _ (k2 he)⟩
    | r =>
      simp only [thenL] at h
      cases h2:thenL f l with
      | none=>simp only [h2] at h; cases h
      | some n =>
        simp only [h2,Option.some.injEq] at h
        subst h
        rcases List.mem_cons.1 hm with he | hm
        · cases he
          exact ⟨fun he=>(by cases he),fun _=>List.mem_cons_self⟩
        · obtain ⟨k1,k2⟩:=thenL_mem h2 e s hm
          exact ⟨fun he=>let ⟨m',q1,q2⟩:=k1 he; ⟨m',q1,fun y hy=>List.mem_cons_of_mem _ (q2 y hy)⟩,fun he=>List.mem_cons_of_mem _ (k2 he)⟩
theorem blockL_mem {id:Nat}:∀ {l:List (SE.X×Sx)} {e:SE.X} {s:Sx},(e,s)∈l→((match e with | .x i=>(bif Nat.beq i id then SE.X.n else .x i) | e=>e),s)∈blockL id l
  | (e',s')::l,e,s,h=>by
    rcases List.mem_cons.1 h with he | h
    · obtain ⟨rfl,rfl⟩:=Prod.mk.inj he
      cases e <;> simp only [blockL] <;> exact List.mem_cons_self
    · have:=blockL_mem (id:=id) h
      cases e' <;> simp only [blockL] <;> exact List.mem_cons_of_mem _ this
def setCT (tm:TT) (c:Operand) (b:Bool):TT :=
  match c with
  | .tmp t=>tm.set t (ofB b)
  | _=>tm
theorem setC_eq {α:Type} (tm:TT) (c:Operand) (b:Bool) (k:TT→α):setC tm c b k=k (setCT tm c b):=by
  cases c with
  | tmp t=>simp only [setC,setK_eq,setCT]
  | _=>rfl
theorem FOk.setC (f:FOk E tm a) {c:Operand} {b:Bool} (h:a.eval c=.bool b):FOk E (setCT tm c b) a:=by
  cases c with
  | tmp t=>exact f.refine t (ofB_slot h)
  | _=>exact f
def fill2:Nat→List SV→TT→TT
  | _,[],t=>t
  | i,v::l,t=>fill2 (i+1) l (t.set i v)
theorem fillT_eq {α:Type}:∀ (i:Nat) (l:List SV) (t:TT) (k:TT→α),fillT i l t k=k (fill2 i l t)
  | i,[],t,k=>rfl
  | i,v::l,t,k=>by simp only [fillT,setK_eq,fN_eq,fill2]; exact fillT_eq (i+1) l _ k
theorem FOk.fill:∀ {l:List SV} {vs:List Value} {i:Nat} {t:TT} {a:Act},FOk E t a→RL E l vs→(∀ k v,vs[k]?=some v→a.tmps.getD (i+k) undef=v)→FOk E (fill2 i l t) a
  | [],vs,i,t,a,f,h,k=>f
  | v :: l,vs,i,t,a,f,h,k=>by
    simp only [RL] at h
    obtain ⟨u,vs',rfl,h1,h2⟩:=h
    simp only [fill2]
    refine FOk.fill (f.refine i ?_) h2 fun j v hj=>?_
    · have:=k 0 u (by simp)
      rw [Nat.add_zero] at this
      rw [this]; exact h1
    · have:=k (j+1) v (by simpa using hj)
      rw [← this]
      congr 1
      omega
theorem FOk.start {l:List SV} {vals:Array Value} (h:RL E l vals.toList) (n:Nat):FOk E (fill2 0 l (mkT n 10 1 0)) { tmps:=vals++Array.replicate (n - vals.size) undef,defers:=[] }:=by
  refine FOk.fill ⟨fun i=>?_,fun i hi=>?_,rfl⟩ h fun k v hk=>?_
  · rw [TT.get_mkT]; simp only [R]
  · have:=TT.has_mkT n 10 1 0 i hi
    simp only [Array.size_append,Array.size_replicate]
    omega
  · have hk':vals[k]?=some v:=by simpa using hk
    obtain ⟨hlt,he⟩:=Array.getElem?_eq_some_iff.1 hk'
    rw [Nat.zero_add]
    simp [Array.getElem?_append_left hlt,hk']
theorem cell_run {P:Program} {t:Nat} {u z:Value} {w:World} (h:(Instr.loadAt t u).run P w=.ok z w):(do loadVar t (← asAddr u):Sem Value).run P w=.ok z w:=by
  unfold Instr.loadAt at h
  cases u with
  | pointer p =>
    cases p with
    | some a=>simpa [Instr.sureAddr,asAddr] using h
    | none=>simp [Instr.sureAddr] at h
  | _=>simp [Instr.sureAddr] at h
theorem resS_ok (hT:TabOk X) (g:G X own0 w0 E st w) (f:FOk E tm a):∀ {rs:List ResultVar} {vs:List SV},resS X.T (tm,st) rs=some vs →
    ∃ zs:List Value,RL E vs zs∧(rs.mapM (fun | .tmp t=>pure (a.tmps.getD t undef) | .cell b t=>do loadVar t (← asAddr (a.tmps.getD b undef)):ResultVar→Sem Value)).run X.P w=.ok zs w
  | [],vs,e=>by
    simp only [resS] at e; cases e
    exact ⟨[],by simp [RL],by simp⟩
  | .tmp t::rs,vs,e=>by
    simp only [resS] at e
    cases h1:resS X.T (tm,st) rs with
    | none=>simp only [h1] at e; cases e
    | some m =>
      simp only [h1,Option.some.injEq] at e
      subst e
      obtain ⟨zs,hz,hr⟩:=resS_ok hT g f h1
      refine ⟨a.tmps.getD t undef::zs,⟨_,_,rfl,f.slot t,hz⟩,?_⟩
      rw [List.mapM_cons,Sem.run_bind,Sem.run_pure,Result.andThen_ok,Sem.run_bind,hr,Result.andThen_ok,Sem.run_pure]
  | .cell b t::rs,vs,e=>by
    simp only [resS] at e
    cases h0:loadS X.T st t (tm.get b) with
    | none=>simp only [h0] at e; cases e
    | some v =>
      cases h1:resS X.T (tm,st) rs with
      | none=>simp only [h0,h1] at e; cases e
      | some m =>
        simp only [h0,h1,Option.some.injEq] at e
        subst e
        obtain ⟨zs,hz,hr⟩:=resS_ok hT g f h1
        obtain ⟨z,hz0,hrun⟩:=loadS_ok hT g h0 (f.slot b)
        refine ⟨z::zs,⟨_,_,rfl,hz0,hz⟩,?_⟩
        rw [List.mapM_cons,Sem.run_bind,cell_run (hrun w (Ext0.refl w)),Result.andThen_ok,Sem.run_bind,hr,Result.andThen_ok,Sem.run_pure]
theorem oneRes_ok {vs:List SV} {zs:Array Value} (h:RL E vs zs.toList):R E (oneRes vs) (if h:zs.size=1 then zs[0] else .tuple zs):=by
  obtain ⟨zl⟩:=zs
  match vs,zl,h with
  | [],zl,h=>simp only [RL] at h; subst h; simp [oneRes,R,RL]
  | [v],zl,h =>
    simp only [RL] at h
    obtain ⟨u,vs',rfl,h1,rfl⟩:=h
    simpa [oneRes] using h1
  | v::v'::vs,zl,h =>
    have h0:=h
    simp only [RL] at h
    obtain ⟨u,vs',rfl,h1,u',vs'',rfl,h2,h3⟩:=h
    have:¬ (#[u,u']++vs''.toArray).size=1:=by simp
    simp only [oneRes]
    rw [dif_neg (by simp)]
    simp only [R]
    exact ⟨_,rfl,h0⟩
theorem ends_mem {T:Tb} {rs:List ResultVar}:∀ {l:List (SE.X×Sx)} {out:Out},ends T rs l=some out→∀ e s,(e,s)∈l→(∀ id,e≠.x id)∧∃ vs,resS T s rs=some vs∧(oneRes vs,s.2)∈out
  | (e',s')::l,out,h,e,s,hm=>by
    have step:(∀ id,e'≠.x id)→∃ vs m,resS T s' rs=some vs∧ends T rs l=some m∧out=(oneRes vs,s'.2)::m:=by
      intro hne
      cases e' with
      | x id=>exact absurd rfl (hne id)
      | n =>
        simp only [ends] at h
        cases h1:resS T s' rs with
        | none=>simp only [h1] at h; cases h
        | some vs =>
          cases h2:ends T rs l with
          | none=>simp only [h1,h2] at h; cases h
          | some m=>simp only [h1,h2,Option.some.injEq] at h; exact ⟨vs,m,rfl,rfl,h.symm⟩
      | r =>
        simp only [ends] at h
        cases h1:resS T s' rs with
        | none=>simp only [h1] at h; cases h
        | some vs =>
          cases h2:ends T rs l with
          | none=>simp only [h1,h2] at h; cases h
          | some m=>simp only [h1,h2,Option.some.injEq] at h; exact ⟨vs,m,rfl,rfl,h.symm⟩
    have hne:(∀ id,e'≠.x id):=by
      intro id hid
      subst hid
      simp only [ends] at h
      cases h
    obtain ⟨vs,m,h1,h2,rfl⟩:=step hne
    rcases List.mem_cons.1 hm with he | hm
    · cases he
      exact ⟨hne,vs,h1,List.mem_cons_self⟩
    · obtain ⟨k1,vs',k2,k3⟩:=ends_mem h2 e s hm
      exact ⟨k1,vs',k2,List.mem_cons_of_mem _ k3⟩
def KOk (X:Px) (own0:Nat→Prop) (w0:World):Prop :=
  ∀ g args st l,X.T.k g args st=some (some l)→∀ E w (vals:Array Value),G X own0 w0 E st w→RL E args vals.toList→Calls X.P g vals w (Outs X own0 w0 E l)
def ExOk (X:Px) (own0:Nat→Prop) (w0:World) (ex:Code→Sx→Option (List (SE.X×Sx))):Prop :=
  ∀ c s l,ex c s=some l→∀ E a w (Q:Exit→Act→World→Prop),G X own0 w0 E s.2 w→FOk E s.1 a→PostX X own0 w0 E l Q→c.wp X.P Q a w
theorem callF1_ok (hT:TabOk X) (hK:KOk X own0 w0) {ex:Code→Sx→Option (List (SE.X×Sx))} (hE:ExOk X own0 w0 ex):CallOk X own0 w0 (callF1 X.T ex):=by
  intro g args st l e
  unfold callF1 at e
  cases hfn:X.T.fn.get g with
  | none=>simp only [hfn] at e; cases e
  | some fn =>
    simp only [hfn] at e
    refine ⟨⟨fn,rfl⟩,fun E w vals hG hR=>?_⟩
    cases hk:X.T.k g args st with
    | some r =>
      cases r with
      | none=>simp only [hk] at e; cases e
      | some r =>
        simp only [hk,fOut_eq,Option.some.injEq] at e
        subst e
        exact hK g args st _ hk E w vals hG hR
    | none =>
      simp only [hk] at e
      cases hb:fn.body with
      | none=>simp only [hb] at e; cases e
      | some c =>
        simp only [hb,fillT_eq] at e
        cases hx:ex c (fill2 0 args (mkT fn.ntmps 10 1 0),st) with
        | none=>simp only [hx] at e; cases e
        | some xl =>
          simp only [hx] at e
          obtain ⟨hf,_,_⟩:=hT.fn g fn hfn
          refine calls_of_wp hf hb (hE c _ xl hx E _ w _ hG (FOk.start hR fn.ntmps) ?_)
          intro p hp E' a' w' hle hg hf'
          obtain ⟨xe,s⟩:=p
          obtain ⟨hne,vs,hres,hmem⟩:=ends_mem e xe s hp
          obtain ⟨zs,hz,hrun⟩:=resS_ok hT hg hf' hres
          have hz':RL E' vs zs.toArray.toList:=by simpa using hz
          have hfin:∃ v,(results fn a'.tmps).run X.P w'=.ok v w'∧Outs X own0 w0 E l (.returned v) w':=by
            refine ⟨_,?_,⟨_,hmem,E',_,hle,rfl,oneRes_ok hz',hg⟩⟩
            unfold results
            rw [Sem.run_bind,Array.mapM_eq_mapM_toList,Sem.run_map]
            erw [hrun]
            rfl
          cases xe with
          | n=>exact ⟨hf'.defers,hfin⟩
          | r=>exact ⟨hf'.defers,hfin⟩
          | x id=>exact absurd rfl (hne id)
theorem callF_ok (hT:TabOk X) (hK:KOk X own0 w0) {ex:Code→Sx→Option (List (SE.X×Sx))} (hE:ExOk X own0 w0 ex):CallOk X own0 w0 (callF X.T ex):=by
  intro g args st l e
  unfold callF at e
  cases hfn:X.T.fn.get g with
  | none=>simp only [hfn] at e; cases e
  | some fn =>
    simp only [hfn] at e
    cases hb:bindL (fun p=>callF1 X.T ex g p.1 p.2) (splitA X.T g args (nilOwns X.T st (X.T.pre g args st))) with
    | none=>simp only [hb] at e; cases e
    | some l0 =>
      simp only [hb] at e
      cases e
      refine ⟨⟨fn,rfl⟩,fun E w vals hG hR=>?_⟩
      obtain ⟨E1,hle1,hG1⟩:=nilOwns_ok hT.emp hG (X.T.pre g args st)
      obtain ⟨p,hp,hg,hr⟩:=splitA_ok (T:=X.T) (gi:=g) hG1 (hR.mono hle1)
      obtain ⟨m,hm,hsub⟩:=bindL_mem hb p hp
      refine Calls.mono ((callF1_ok hT hK hE g p.1 p.2 m hm).2 E1 w vals hg hr) fun e w' he=>?_
      obtain ⟨o,ho,E',x,h1,h2,h3,h4⟩:=he
      exact joinO_ok hT.glz ⟨o,hsub o ho,E',x,Env.le_trans hle1 h1,h2,h3,h4⟩
theorem loopX_ok {ex:Code→Sx→Option (List (SE.X×Sx))} (hE:ExOk X own0 w0 ex) {b:Code}:∀ (n:Nat) {s:Sx} {l:List (SE.X×Sx)},loopX (ex b) n s=some l →
    ∀ {E a w} {Q:Exit→Act→World→Prop},G X own0 w0 E s.2 w→FOk E s.1 a→PostX X own0 w0 E l Q→Code.rounds X.P b Q n a w
  | 0,s,l,e,E,a,w,Q,g,f,h=>by simp only [loopX] at e; cases e
  | n + 1,s,l,e,E,a,w,Q,g,f,h=>by
    simp only [loopX] at e
    cases h1:ex b s with
    | none=>simp only [h1] at e; cases e
    | some m =>
      simp only [h1] at e
      rw [rounds_succ]
      refine hE b s m h1 E a w _ g f fun p hp E' a' w' hle g' f'=>?_
      obtain ⟨xe,s'⟩:=p
      obtain ⟨k1,k2⟩:=thenL_mem e xe s' hp
      cases xe with
      | n =>
        obtain ⟨m',q1,q2⟩:=k1 rfl
        exact loopX_ok hE n q1 g' f' (h.mono hle q2)
      | x id=>exact h (.x id,s') (k2 (by simp)) E' a' w' hle g' f'
      | r=>exact h (.r,s') (k2 (by simp)) E' a' w' hle g' f'
theorem exec_ok (hT:TabOk X) (hP:PkOk X) (hR:RkOk X) (hK:KOk X own0 w0):∀ f:Nat,ExOk X own0 w0 (exec X.T f)
  | 0=>fun c s l e=>by simp only [exec] at e; cases e
  | f + 1 => by
    have ih:=exec_ok hT hP hR hK f
    have hC:=callF_ok hT hK ih
    intro c s l e E a w Q g fo h
    cases c <;> simp only [exec] at e <;> try cases e
    case skip=>exact wp_skip (h (.n,s) (by simp) E a w (Env.le_refl E) g fo)
    case label id=>exact wp_label (h (.n,s) (by simp) E a w (Env.le_refl E) g fo)
    case exit id=>exact wp_exit (h (.x id,s) (by simp) E a w (Env.le_refl E) g fo)
    case ret=>exact wp_ret (h (.r,s) (by simp) E a w (Env.le_refl E) g fo)
    case region id ops dr =>
      cases dr with
      | false =>
        simp only at e
        cases h1:runOps X.T (callF X.T (exec X.T f)) ops.toList ops.toList s with
        | none=>simp only [h1] at e; cases e
        | some m =>
          simp only [h1,Option.some.injEq] at e
          subst e
          exact wp_region_list (runOps_wp hT hP hR hC h1 g fo fun s' hs E' a' w' hle g' f'=>h (.n,s') (nrm_mem hs) E' a' w' hle g' f')
      | true =>
        simp only at e
        cases h1:drawRun X.T (callF X.T (exec X.T f)) ops.toList s with
        | none=>simp only [h1] at e; cases e
        | some m =>
          simp only [h1,Option.some.injEq] at e
          subst e
          unfold drawRun at h1
          simp only [cond_eq_ite] at h1
          split at h1
          · rename_i hsel
            cases h2:runPlan X.T (callF X.T (exec X.T f)) ops.toList (planOf X.T ops.toList) s with
            | none=>simp only [h2] at h1; cases h1
            | some m' =>
              simp only [h2,Option.some.injEq] at h1
              subst h1
              simp only [planOf,fInf_eq] at h2
              refine wp_mono (Q:=fun e a w=>match e with | .normal=>Q .normal a w | _=>False) (wp_region_any hT.mixed ?_) ?_
              · have:=plan_ok hT hP hR hC (Q:=fun e a w=>match e with | .normal=>Q .normal a w | _=>False) (fun c a w hh=>hh) hsel ops.toList.length (LM.zero ops) h2 (w:=w.drew) (a:=a) (E:=E) g.drew fo
                  (fun s' hs E' a' w' hle g' f'=>h (.n,s') (nrm_mem (dedup_mem hs)) E' a' w' hle g' f')
                simpa using this
              · intro e a w he
                cases e <;> first
                  | exact he
                  | exact he.elim
          · cases h1
    case seq x y =>
      cases h1:exec X.T f x s with
      | none=>simp only [h1] at e; cases e
      | some m =>
        simp only [h1] at e
        refine wp_seq (ih x s m h1 E a w _ g fo fun p hp E' a' w' hle g' f'=>?_)
        obtain ⟨xe,s'⟩:=p
        obtain ⟨k1,k2⟩:=thenL_mem e xe s' hp
        cases xe with
        | n =>
          obtain ⟨m',q1,q2⟩:=k1 rfl
          exact ih y s' m' q1 E' a' w' _ g' f' (h.mono hle q2)
        | x id=>exact h (.x id,s') (k2 (by simp)) E' a' w' hle g' f'
        | r=>exact h (.r,s') (k2 (by simp)) E' a' w' hle g' f'
    case cond c x y =>
      have hv:=fo.eval c
      cases hb:evalB s.2 (rho s.1 c) with
      | some b =>
        have hv':=evalB_ok g hb hv
        simp only [hb] at e
        refine wp_cond_split hv' (fun ht=>?_) (fun ht=>?_) <;> subst ht <;> simp only at e
        · exact ih x s l e E a w Q g fo h
        · exact ih y s l e E a w Q g fo h
      | none =>
        simp only [hb,cond_eq_ite] at e
        split at e
        · rename_i hi
          obtain ⟨b,hv'⟩:=isB_ok hi hv
          have hs:R E (rho s.1 c) (.bool b):=by rw [← hv']; exact hv
          obtain ⟨st',ha,g'⟩:=assumeL_ok g hs
          have f':=fo.setC hv'
          simp only [setC_eq,fSt_eq,fStM_eq,fStT_eq] at e
          revert e
          split
          · rename_i l m h1 h2
            intro e
            cases e
            refine wp_cond_split hv' (fun ht=>?_) (fun ht=>?_) <;> subst ht
            · obtain ⟨m',hm1,hm2⟩:=bindL_mem h1 st' ha
              exact ih x _ m' hm1 E a w Q g' f' (h.mono (Env.le_refl E) fun p hp=>List.mem_append_left _ (hm2 p hp))
            · obtain ⟨m',hm1,hm2⟩:=bindL_mem h2 st' ha
              exact ih y _ m' hm1 E a w Q g' f' (h.mono (Env.le_refl E) fun p hp=>List.mem_append_right _ (hm2 p hp))
          · intro e; cases e
        · cases e
    case block id b =>
      cases h1:exec X.T f b s with
      | none=>simp only [h1] at e; cases e
      | some m =>
        simp only [h1,Option.some.injEq] at e
        subst e
        refine wp_block (ih b s m h1 E a w _ g fo fun p hp E' a' w' hle g' f'=>?_)
        obtain ⟨xe,s'⟩:=p
        have hm:=blockL_mem (id:=id) hp
        cases xe with
        | n=>exact h (.n,s') hm E' a' w' hle g' f'
        | r=>exact h (.r,s') hm E' a' w' hle g' f'
        | x i =>
          simp only [exitOf,Exit.inBlock]
          simp only at hm
          cases hq:Nat.beq i id with
          | true =>
            rw [hq] at hm
            rw [if_pos (nbeq hq)]
            exact h (.n,s') hm E' a' w' hle g' f'
          | false =>
            rw [hq] at hm
            rw [if_neg (nbeq_false hq)]
            exact h (.x i,s') hm E' a' w' hle g' f'
    case loop b=>exact wp_loop_rounds 300 (loopX_ok ih 300 e g fo h)
theorem run_ok (hT:TabOk X) (hP:PkOk X) (hR:RkOk X) (hK:KOk X own0 w0) (f:Nat) {g:Nat} {args:List SV} {st:St} {l:Out} (e:run X.T f g args st=some l) {E:Env} {w:World} {vals:Array Value}
    (hG:G X own0 w0 E st w) (hr:RL E args vals.toList):Calls X.P g vals w (Outs X own0 w0 E l) :=
  ((callF_ok hT hK (exec_ok hT hP hR hK f)) g args st l e).2 E w vals hG hr
end SE
end
section
namespace SE
def tyT7:Tr TY:=.nd (some ⟨.str [(2,0),(3,1),(4,2),(6,3)],4,24,[.int .i64 (.r 0 0),.int .i64 (.r 0 0),.ff,.int .u8 (.r 0 0)]⟩) (.nd (some ⟨.ptr 337,1,8,[.nilp]⟩) (.nd (some ⟨.ptr 71,1,8,[.nilp]⟩) (.nd (some ⟨.func,1,8,[.nilf]⟩) (.nd (some ⟨.func,1,8,[.nilf]⟩) (.nd (some ⟨.func,1,8,[.nilf]⟩) (.lf) (.lf)) (.lf)) (.nd (some ⟨.arr 10 5,10,10,rep 10 (.int .u8 (.r 0 0))⟩) (.nd none (.lf) (.lf)) (.lf))) (.nd (some ⟨.func,1,8,[.nilf]⟩) (.nd (some ⟨.func,1,8,[.nilf]⟩) (.nd (some ⟨.func,1,8,[.nilf]⟩) (.lf) (.lf)) (.lf)) (.nd (some ⟨.func,1,8,[.nilf]⟩) (.lf) (.lf)))) (.nd (some ⟨.str [(3,0),(3,1),(23,2),(46,3),(4,9)],10,96,[.int .i64 (.r 0 0),.int .i64 (.r 0 0),.nils,.ff,.int .i64 (.r 0 0),.int .i64 (.r 0 0),.int .i64 (.r 0 0),.int .i64 (.r 0 0),.ff,.ff]⟩) (.nd (some ⟨.str [(61,0)],1,24,[.nils]⟩) (.nd (some ⟨.arr 3 142,117,264,[.ff,.int .i64 (.r 0 0),.int .i64 (.r 0 0),.int .i64 (.r 0 0),.int .u8 (.r 0 0),.int .u8 (.r 0 0),.int .u8 (.r 0 0),.int .u8 (.r 0 0),.int .u8 (.r 0 0),.int .u8 (.r 0 0),.int .u8 (.r 0 0),.int .u8 (.r 0 0),.int .u8 (.r 0 0),.int .u8 (.r 0 0),.int .u8 (.r 0 0),.int .u8 (.r 0 0),.int .u8 (.r 0 0),.int .u8 (.r 0 0),.int .u8 (.r 0 0),.int .u8 (.r 0 0),.int .u8 (.r 0 0),.int .u8 (.r 0 0),.int .u8 (.r 0 0),.int .u8 (.r 0 0),.int .u8 (.r 0 0),.int .u8 (.r 0 0),.int .u8 (.r 0 0),.int .u8 (.r 0 0),.int .u8 (.r 0 0),.int .u8 (.r 0 0),.int .u8 (.r 0 0),.int .u8 (.r 0 0),.int .u8 (.r 0 0),.int .u8 (.r 0 0),.int .u8 (.r 0 0),.int .u8 (.r 0 0),.ff,.int .i64 (.r 0 0),.int .u64 (.r 0 0),.ff,.int .i64 (.r 0 0),.int .i64 (.r 0 0),.int .i64 (.r 0 0),.int .u8 (.r 0 0),.int .u8 (.r 0 0),.int .u8 (.r 0 0),.int .u8 (.r 0 0),.int .u8 (.r 0 0),.int .u8 (.r 0 0),.int .u8 (.r 0 0),.int .u8 (.r 0 0),.int .u8 (.r 0 0),.int .u8 (.r 0 0),.int .u8 (.r 0 0),.int .u8 (.r 0 0),.int .u8 (.r 0 0),.int .u8 (.r 0 0),.int .u8 (.r 0 0),.int .u8 (.r 0 0),.int .u8 (.r 0 0),.int .u8 (.r 0 0),.int .u8 (.r 0 0),.int .u8 (.r 0 0),.int .u8 (.r 0 0),.int .u8 (.r 0 0),.int .u8 (.r 0 0),.int .u8 (.r 0 0),.int .u8 (.r 0 0),.int .u8 (.r 0 0),.int .u8 (.r 0 0),.int .u8 (.r 0 0),.int .u8 (.r 0 0),.int .u8 (.r 0 0),.int .u8 (.r 0 0),.int .u8 (.r 0 0),.ff,.int .i64 (.r 0 0),.int .u64 (.r 0 0),.ff,.int .i64 (.r 0 0),.int .i64 (.r 0 0),.int .i64 (.r 0 0),.int .u8 (.r 0 0),.int .u8 (.r 0 0),.int .u8 (.r 0 0),.int .u8 (.r 0 0),.int .u8 (.r 0 0),.int .u8 (.r 0 0),.int .u8 (.r 0 0),.int .u8 (.r 0 0),.int .u8 (.r 0 0),.int .u8 (.r 0 0),.int .u8 (.r 0 0),.int .u8 (.r 0 0),.int .u8 (.r 0 0),.int .u8 (.r 0 0),.int .u8 (.r 0 0),.int .u8 (.r 0 0),.int .u8 (.r 0 0),.int .u8 (.r 0 0),.int .u8 (.r 0 0),.int .u8 (.r 0 0),.int .u8 (.r 0 0),.int .u8 (.r 0 0),.int .u8 (.r 0 0),.int .u8 (.r 0 0),.int .u8 (.r 0 0),.int .u8 (.r 0 0),.int .u8 (.r 0 0),.int .u8 (.r 0 0),.int .u8 (.r 0 0),.int .u8 (.r 0 0),.int .u8 (.r 0 0),.int .u8 (.r 0 0),.ff,.int .i64 (.r 0 0),.int .u64 (.r 0 0)]⟩) (.nd (some ⟨.iface,1,16,[.nili]⟩) (.lf) (.lf)) (.lf)) (.nd (some ⟨.func,1,8,[.nilf]⟩) (.nd (some ⟨.func,1,8,[.nilf]⟩) (.lf) (.lf)) (.lf))) (.nd (some ⟨.str [(3,0),(3,1),(98,2)],4,32,[.int .i64 (.r 0 0),.int .i64 (.r 0 0),.int .i64 (.r 0 0),.int .i64 (.r 0 0)]⟩) (.nd (some ⟨.func,1,8,[.nilf]⟩) (.nd (some ⟨.func,1,8,[.nilf]⟩) (.lf) (.lf)) (.lf)) (.nd (some ⟨.arr 64 5,64,64,rep 64 (.int .u8 (.r 0 0))⟩) (.lf) (.lf))))) (.nd (some ⟨.slice 5,1,24,[.nils]⟩) (.nd (some ⟨.slice 252,1,24,[.nils]⟩) (.nd (some ⟨.str [(67,0),(58,1),(69,2)],5,40,[.nilp,.int .i64 (.r 0 0),.nilp,.nilp,.nilp]⟩) (.nd (some ⟨.str [(112,0),(134,4)],5,40,[.int .i64 (.r 0 0),.int .i64 (.r 0 0),.int .i64 (.r 0 0),.int .i64 (.r 0 0),.int .u64 (.r 0 0)]⟩) (.nd (some ⟨.func,1,8,[.nilf]⟩) (.lf) (.lf)) (.lf)) (.nd (some ⟨.str [(3,0),(3,1),(3,2),(3,3),(3,4),(58,5),(102,6)],14,56,[.int .i64 (.r 0 0),.int .i64 (.r 0 0),.int .i64 (.r 0 0),.int .i64 (.r 0 0),.int .i64 (.r 0 0),.int .i64 (.r 0 0),.int .u8 (.r 0 0),.int .u8 (.r 0 0),.int .u8 (.r 0 0),.int .u8 (.r 0 0),.int .u8 (.r 0 0),.int .u8 (.r 0 0),.int .u8 (.r 0 0),.int .u8 (.r 0 0)]⟩) (.nd (some ⟨.func,1,8,[.nilf]⟩) (.lf) (.lf)) (.lf))) (.nd (some ⟨.str [(3,0),(4,1),(102,2)],10,24,[.int .i64 (.r 0 0),.ff,.int .u8 (.r 0 0),.int .u8 (.r 0 0),.int .u8 (.r 0 0),.int .u8 (.r 0 0),.int .u8 (.r 0 0),.int .u8 (.r 0 0),.int .u8 (.r 0 0),.int .u8 (.r 0 0)]⟩) (.nd (some ⟨.func,1,8,[.nilf]⟩) (.nd (some ⟨.func,1,8,[.nilf]⟩) (.lf) (.lf)) (.lf)) (.nd (some ⟨.str [(3,0),(3,1)],2,16,[.int .i64 (.r 0 0),.int .i64 (.r 0 0)]⟩) (.lf) (.lf)))) (.nd (some ⟨.str [(3,0),(3,1),(3,2),(3,3),(36,4),(51,7),(52,19),(53,20),(22,25),(4,30)],31,232,[.int .i64 (.r 0 0),.int .i64 (.r 0 0),.int .i64 (.r 0 0),.int .i64 (.r 0 0),.int .i64 (.r 0 0),.int .i64 (.r 0 0),.int .i64 (.r 0 0),.int .i64 (.r 0 0),.int .i64 (.r 0 0),.int .i64 (.r 0 0),.int .i64 (.r 0 0),.int .i64 (.r 0 0),.int .i64 (.r 0 0),.int .i64 (.r 0 0),.int .i64 (.r 0 0),.int .i64 (.r 0 0),.int .i64 (.r 0 0),.int .i64 (.r 0 0),.int .i64 (.r 0 0),.nils,.ff,.ff,.ff,.ff,.ff,.int .i64 (.r 0 0),.int .i64 (.r 0 0),.int .i64 (.r 0 0),.int .i64 (.r 0 0),.int .i64 (.r 0 0),.ff]⟩) (.nd (some ⟨.str [(67,0),(39,1),(40,2)],3,56,[.nilp,.nils,.nils]⟩) (.nd (some ⟨.func,1,8,[.nilf]⟩) (.nd (some ⟨.int .i64,1,8,[.int .i64 (.r 0 0)]⟩) (.lf) (.lf)) (.lf)) (.nd (some ⟨.ptr 132,1,8,[.nilp]⟩) (.nd (some ⟨.func,1,8,[.nilf]⟩) (.lf) (.lf)) (.lf))) (.nd (some ⟨.func,1,8,[.nilf]⟩) (.nd (some ⟨.func,1,8,[.nilf]⟩) (.nd (some ⟨.func,1,8,[.nilf]⟩) (.lf) (.lf)) (.lf)) (.nd (some ⟨.func,1,8,[.nilf]⟩) (.lf) (.lf)))))
def tyT11:Tr TY:=.nd none (.nd (some ⟨.str [(17,0)],1,8,[.nilp]⟩) (.nd (some ⟨.str [(3,0),(3,1),(3,2)],3,24,[.int .i64 (.r 0 0),.int .i64 (.r 0 0),.int .i64 (.r 0 0)]⟩) (.nd (some ⟨.ptr 108,1,8,[.nilp]⟩) (.nd (some ⟨.slice 136,1,24,[.nils]⟩) (.nd (some ⟨.ptr 138,1,8,[.nilp]⟩) (.lf) (.lf)) (.lf)) (.nd (some ⟨.func,1,8,[.nilf]⟩) (.nd (some ⟨.func,1,8,[.nilf]⟩) (.lf) (.lf)) (.lf))) (.nd (some ⟨.str [(3,0),(3,1),(3,2),(98,3),(98,5),(4,7)],8,64,[.int .i64 (.r 0 0),.int .i64 (.r 0 0),.int .i64 (.r 0 0),.int .i64 (.r 0 0),.int .i64 (.r 0 0),.int .i64 (.r 0 0),.int .i64 (.r 0 0),.ff]⟩) (.nd (some ⟨.str [(3,0),(3,1),(58,2),(23,3)],4,48,[.int .i64 (.r 0 0),.int .i64 (.r 0 0),.int .i64 (.r 0 0),.nils]⟩) (.nd (some ⟨.func,1,8,[.nilf]⟩) (.lf) (.lf)) (.lf)) (.nd (some ⟨.func,1,8,[.nilf]⟩) (.lf) (.lf)))) (.nd (some ⟨.str [(3,0),(25,1),(25,5),(36,9)],12,96,rep 12 (.int .i64 (.r 0 0))⟩) (.nd (some ⟨.func,1,8,[.nilf]⟩) (.nd (some ⟨.func,1,8,[.nilf]⟩) (.nd (some ⟨.func,1,8,[.nilf]⟩) (.lf) (.lf)) (.lf)) (.nd (some ⟨.func,1,8,[.nilf]⟩) (.nd (some ⟨.str [(338,0)],0,0,[]⟩) (.lf) (.lf)) (.lf))) (.nd (some ⟨.ptr 79,1,8,[.nilp]⟩) (.nd (some ⟨.func,1,8,[.nilf]⟩) (.nd (some ⟨.str [(58,0),(30,1)],2,16,[.int .i64 (.r 0 0),.nilf]⟩) (.lf) (.lf)) (.lf)) (.nd (some ⟨.slice 290,1,24,[.nils]⟩) (.lf) (.lf))))) (.nd (some ⟨.str [(22,0),(24,5),(23,8),(22,9),(26,14),(22,34),(3,39),(3,40),(3,41),(3,42),(3,43),(3,44),(3,45),(3,46),(3,47),(3,48),(3,49),(25,50),(3,54),(3,55)],56,512,[.int .i64 (.r 0 0),.int .i64 (.r 0 0),.int .i64 (.r 0 0),.int .i64 (.r 0 0),.int .i64 (.r 0 0),.nils,.nils,.nils,.nils,.int .i64 (.r 0 0),.int .i64 (.r 0 0),.int .i64 (.r 0 0),.int .i64 (.r 0 0),.int .i64 (.r 0 0),.int .i64 (.r 0 0),.int .i64 (.r 0 0),.int .i64 (.r 0 0),.int .i64 (.r 0 0),.int .i64 (.r 0 0),.int .i64 (.r 0 0),.int .i64 (.r 0 0),.int .i64 (.r 0 0),.int .i64 (.r 0 0),.int .i64 (.r 0 0),.int .i64 (.r 0 0),.int .i64 (.r 0 0),.int .i64 (.r 0 0),.int .i64 (.r 0 0),.int .i64 (.r 0 0),.int .i64 (.r 0 0),.int .i64 (.r 0 0),.int .i64 (.r 0 0),.int .i64 (.r 0 0),.int .i64 (.r 0 0),.int .i64 (.r 0 0),.int .i64 (.r 0 0),.int .i64 (.r 0 0),.int .i64 (.r 0 0),.int .i64 (.r 0 0),.int .i64 (.r 0 0),.int .i64 (.r 0 0),.int .i64 (.r 0 0),.int .i64 (.r 0 0),.int .i64 (.r 0 0),.int .i64 (.r 0 0),.int .i64 (.r 0 0),.int .i64 (.r 0 0),.int .i64 (.r 0 0),.int .i64 (.r 0 0),.int .i64 (.r 0 0),.int .i64 (.r 0 0),.int .i64 (.r 0 0),.int .i64 (.r 0 0),.int .i64 (.r 0 0),.int .i64 (.r 0 0),.int .i64 (.r 0 0)]⟩) (.nd (some ⟨.str [(38,0),(39,12),(40,13),(41,14)],46,176,[.int .i64 (.r 0 0),.int .i64 (.r 0 0),.int .i64 (.r 0 0),.int .i64 (.r 0 0),.int .i64 (.r 0 0),.int .i64 (.r 0 0),.int .i64 (.r 0 0),.int .i64 (.r 0 0),.int .i64 (.r 0 0),.int .i64 (.r 0 0),.int .i64 (.r 0 0),.int .i64 (.r 0 0),.nils,.nils,.int .u8 (.r 0 0),.int .u8 (.r 0 0),.int .u8 (.r 0 0),.int .u8 (.r 0 0),.int .u8 (.r 0 0),.int .u8 (.r 0 0),.int .u8 (.r 0 0),.int .u8 (.r 0 0),.int .u8 (.r 0 0),.int .u8 (.r 0 0),.int .u8 (.r 0 0),.int .u8 (.r 0 0),.int .u8 (.r 0 0),.int .u8 (.r 0 0),.int .u8 (.r 0 0),.int .u8 (.r 0 0),.int .u8 (.r 0 0),.int .u8 (.r 0 0),.int .u8 (.r 0 0),.int .u8 (.r 0 0),.int .u8 (.r 0 0),.int .u8 (.r 0 0),.int .u8 (.r 0 0),.int .u8 (.r 0 0),.int .u8 (.r 0 0),.int .u8 (.r 0 0),.int .u8 (.r 0 0),.int .u8 (.r 0 0),.int .u8 (.r 0 0),.int .u8 (.r 0 0),.int .u8 (.r 0 0),.int .u8 (.r 0 0)]⟩) (.nd (some ⟨.func,1,8,[.nilf]⟩) (.nd (some ⟨.str [(4,0),(3,1),(134,2)],3,24,[.ff,.int .i64 (.r 0 0),.int .u64 (.r 0 0)]⟩) (.nd (some ⟨.arr 12 4,12,12,rep 12 (.ff)⟩) (.lf) (.lf)) (.lf)) (.nd (some ⟨.func,1,8,[.nilf]⟩) (.nd none (.lf) (.lf)) (.lf))) (.nd (some ⟨.str [(28,0),(100,56),(101,64),(105,65),(106,95),(3,96),(3,97),(3,98),(36,99),(51,102),(41,114)],146,840,[.int .i64 (.r 0 0),.int .i64 (.r 0 0),.int .i64 (.r 0 0),.int .i64 (.r 0 0),.int .i64 (.r 0 0),.nils,.nils,.nils,.nils,.int .i64 (.r 0 0),.int .i64 (.r 0 0),.int .i64 (.r 0 0),.int .i64 (.r 0 0),.int .i64 (.r 0 0),.int .i64 (.r 0 0),.int .i64 (.r 0 0),.int .i64 (.r 0 0),.int .i64 (.r 0 0),.int .i64 (.r 0 0),.int .i64 (.r 0 0),.int .i64 (.r 0 0),.int .i64 (.r 0 0),.int .i64 (.r 0 0),.int .i64 (.r 0 0),.int .i64 (.r 0 0),.int .i64 (.r 0 0),.int .i64 (.r 0 0),.int .i64 (.r 0 0),.int .i64 (.r 0 0),.int .i64 (.r 0 0),.int .i64 (.r 0 0),.int .i64 (.r 0 0),.int .i64 (.r 0 0),.int .i64 (.r 0 0),.int .i64 (.r 0 0),.int .i64 (.r 0 0),.int .i64 (.r 0 0),.int .i64 (.r 0 0),.int .i64 (.r 0 0),.int .i64 (.r 0 0),.int .i64 (.r 0 0),.int .i64 (.r 0 0),.int .i64 (.r 0 0),.int .i64 (.r 0 0),.int .i64 (.r 0 0),.int .i64 (.r 0 0),.int .i64 (.r 0 0),.int .i64 (.r 0 0),.int .i64 (.r 0 0),.int .i64 (.r 0 0),.int .i64 (.r 0 0),.int .i64 (.r 0 0),.int .i64 (.r 0 0),.int .i64 (.r 0 0),.int .i64 (.r 0 0),.int .i64 (.r 0 0),.int .i64 (.r 0 0),.int .i64 (.r 0 0),.int .i64 (.r 0 0),.int .i64 (.r 0 0),.int .i64 (.r 0 0),.int .i64 (.r 0 0),.int .i64 (.r 0 0),.ff,.nilp,.int .i64 (.r 0 0),.ff,.int .u8 (.r 0 0),.int .u8 (.r 0 0),.int .u8 (.r 0 0),.int .u8 (.r 0 0),.int .u8 (.r 0 0),.int .u8 (.r 0 0),.int .u8 (.r 0 0),.int .u8 (.r 0 0),.int .i64 (.r 0 0),.ff,.int .u8 (.r 0 0),.int .u8 (.r 0 0),.int .u8 (.r 0 0),.int .u8 (.r 0 0),.int .u8 (.r 0 0),.int .u8 (.r 0 0),.int .u8 (.r 0 0),.int .u8 (.r 0 0),.int .i64 (.r 0 0),.ff,.int .u8 (.r 0 0),.int .u8 (.r 0 0),.int .u8 (.r 0 0),.int .u8 (.r 0 0),.int .u8 (.r 0 0),.int .u8 (.r 0 0),.int .u8 (.r 0 0),.int .u8 (.r 0 0),.nilp,.int .i64 (.r 0 0),.int .i64 (.r 0 0),.int .i64 (.r 0 0),.int .i64 (.r 0 0),.int .i64 (.r 0 0),.int .i64 (.r 0 0),.int .i64 (.r 0 0),.int .i64 (.r 0 0),.int .i64 (.r 0 0),.int .i64 (.r 0 0),.int .i64 (.r 0 0),.int .i64 (.r 0 0),.int .i64 (.r 0 0),.int .i64 (.r 0 0),.int .i64 (.r 0 0),.int .i64 (.r 0 0),.int .i64 (.r 0 0),.int .i64 (.r 0 0),.int .u8 (.r 0 0),.int .u8 (.r 0 0),.int .u8 (.r 0 0),.int .u8 (.r 0 0),.int .u8 (.r 0 0),.int .u8 (.r 0 0),.int .u8 (.r 0 0),.int .u8 (.r 0 0),.int .u8 (.r 0 0),.int .u8 (.r 0 0),.int .u8 (.r 0 0),.int .u8 (.r 0 0),.int .u8 (.r 0 0),.int .u8 (.r 0 0),.int .u8 (.r 0 0),.int .u8 (.r 0 0),.int .u8 (.r 0 0),.int .u8 (.r 0 0),.int .u8 (.r 0 0),.int .u8 (.r 0 0),.int .u8 (.r 0 0),.int .u8 (.r 0 0),.int .u8 (.r 0 0),.int .u8 (.r 0 0),.int .u8 (.r 0 0),.int .u8 (.r 0 0),.int .u8 (.r 0 0),.int .u8 (.r 0 0),.int .u8 (.r 0 0),.int .u8 (.r 0 0),.int .u8 (.r 0 0),.int .u8 (.r 0 0)]⟩) (.nd (some ⟨.func,1,8,[.nilf]⟩) (.nd (some ⟨.ptr 200,1,8,[.nilp]⟩) (.lf) (.lf)) (.lf)) (.nd (some ⟨.int .u32,1,4,[.int .u32 (.r 0 0)]⟩) (.lf) (.lf)))) (.nd (some ⟨.str [(3,0),(3,1),(3,2),(3,3),(58,4),(3,5)],6,48,[.int .i64 (.r 0 0),.int .i64 (.r 0 0),.int .i64 (.r 0 0),.int .i64 (.r 0 0),.int .i64 (.r 0 0),.int .i64 (.r 0 0)]⟩) (.nd (some ⟨.func,1,8,[.nilf]⟩) (.nd (some ⟨.func,1,8,[.nilf]⟩) (.nd (some ⟨.func,1,8,[.nilf]⟩) (.lf) (.lf)) (.lf)) (.nd (some ⟨.func,1,8,[.nilf]⟩) (.nd (some ⟨.str [(12,0),(12,1),(235,2),(341,3),(5,4),(5,5),(342,6),(343,7),(322,8),(344,9),(345,10)],11,48,[.int .u64 (.r 0 0),.int .u64 (.r 0 0),.int .u32 (.r 0 0),.int .u8 (.r 0 0),.int .u8 (.r 0 0),.int .u8 (.r 0 0),.int .u8 (.r 0 0),.nilf,.nilp,.int .i32 (.r 0 0),.int .i32 (.r 0 0)]⟩) (.lf) (.lf)) (.lf))) (.nd (some ⟨.str [(23,0)],1,24,[.nils]⟩) (.nd (some ⟨.func,1,8,[.nilf]⟩) (.nd (some ⟨.func,1,8,[.nilf]⟩) (.lf) (.lf)) (.lf)) (.nd (some ⟨.str [(3,0),(23,1)],2,32,[.int .i64 (.r 0 0),.nils]⟩) (.lf) (.lf)))))
def tyT9:Tr TY:=.nd none (.nd (some ⟨.ptr 347,1,8,[.nilp]⟩) (.nd (some ⟨.func,1,8,[.nilf]⟩) (.nd (some ⟨.func,1,8,[.nilf]⟩) (.nd (some ⟨.func,1,8,[.nilf]⟩) (.nd (some ⟨.func,1,8,[.nilf]⟩) (.lf) (.lf)) (.lf)) (.nd (some ⟨.func,1,8,[.nilf]⟩) (.nd (some ⟨.func,1,8,[.nilf]⟩) (.lf) (.lf)) (.lf))) (.nd (some ⟨.str [(3,0),(3,1)],2,16,[.int .i64 (.r 0 0),.int .i64 (.r 0 0)]⟩) (.nd (some ⟨.func,1,8,[.nilf]⟩) (.nd (some ⟨.str [(3,0),(3,1),(3,2),(226,3),(184,4)],5,40,[.int .i64 (.r 0 0),.int .i64 (.r 0 0),.int .i64 (.r 0 0),.nilf,.nilf]⟩) (.lf) (.lf)) (.lf)) (.nd (some ⟨.iface,1,16,[.nili]⟩) (.lf) (.lf)))) (.nd (some ⟨.func,1,8,[.nilf]⟩) (.nd (some ⟨.func,1,8,[.nilf]⟩) (.nd (some ⟨.str [(138,0),(143,3),(3,120),(3,121)],122,304,[.ff,.int .i64 (.r 0 0),.int .i64 (.r 0 0),.ff,.int .i64 (.r 0 0),.int .i64 (.r 0 0),.int .i64 (.r 0 0),.int .u8 (.r 0 0),.int .u8 (.r 0 0),.int .u8 (.r 0 0),.int .u8 (.r 0 0),.int .u8 (.r 0 0),.int .u8 (.r 0 0),.int .u8 (.r 0 0),.int .u8 (.r 0 0),.int .u8 (.r 0 0),.int .u8 (.r 0 0),.int .u8 (.r 0 0),.int .u8 (.r 0 0),.int .u8 (.r 0 0),.int .u8 (.r 0 0),.int .u8 (.r 0 0),.int .u8 (.r 0 0),.int .u8 (.r 0 0),.int .u8 (.r 0 0),.int .u8 (.r 0 0),.int .u8 (.r 0 0),.int .u8 (.r 0 0),.int .u8 (.r 0 0),.int .u8 (.r 0 0),.int .u8 (.r 0 0),.int .u8 (.r 0 0),.int .u8 (.r 0 0),.int .u8 (.r 0 0),.int .u8 (.r 0 0),.int .u8 (.r 0 0),.int .u8 (.r 0 0),.int .u8 (.r 0 0),.int .u8 (.r 0 0),.ff,.int .i64 (.r 0 0),.int .u64 (.r 0 0),.ff,.int .i64 (.r 0 0),.int .i64 (.r 0 0),.int .i64 (.r 0 0),.int .u8 (.r 0 0),.int .u8 (.r 0 0),.int .u8 (.r 0 0),.int .u8 (.r 0 0),.int .u8 (.r 0 0),.int .u8 (.r 0 0),.int .u8 (.r 0 0),.int .u8 (.r 0 0),.int .u8 (.r 0 0),.int .u8 (.r 0 0),.int .u8 (.r 0 0),.int .u8 (.r 0 0),.int .u8 (.r 0 0),.int .u8 (.r 0 0),.int .u8 (.r 0 0),.int .u8 (.r 0 0),.int .u8 (.r 0 0),.int .u8 (.r 0 0),.int .u8 (.r 0 0),.int .u8 (.r 0 0),.int .u8 (.r 0 0),.int .u8 (.r 0 0),.int .u8 (.r 0 0),.int .u8 (.r 0 0),.int .u8 (.r 0 0),.int .u8 (.r 0 0),.int .u8 (.r 0 0),.int .u8 (.r 0 0),.int .u8 (.r 0 0),.int .u8 (.r 0 0),.int .u8 (.r 0 0),.int .u8 (.r 0 0),.ff,.int .i64 (.r 0 0),.int .u64 (.r 0 0),.ff,.int .i64 (.r 0 0),.int .i64 (.r 0 0),.int .i64 (.r 0 0),.int .u8 (.r 0 0),.int .u8 (.r 0 0),.int .u8 (.r 0 0),.int .u8 (.r 0 0),.int .u8 (.r 0 0),.int .u8 (.r 0 0),.int .u8 (.r 0 0),.int .u8 (.r 0 0),.int .u8 (.r 0 0),.int .u8 (.r 0 0),.int .u8 (.r 0 0),.int .u8 (.r 0 0),.int .u8 (.r 0 0),.int .u8 (.r 0 0),.int .u8 (.r 0 0),.int .u8 (.r 0 0),.int .u8 (.r 0 0),.int .u8 (.r 0 0),.int .u8 (.r 0 0),.int .u8 (.r 0 0),.int .u8 (.r 0 0),.int .u8 (.r 0 0),.int .u8 (.r 0 0),.int .u8 (.r 0 0),.int .u8 (.r 0 0),.int .u8 (.r 0 0),.int .u8 (.r 0 0),.int .u8 (.r 0 0),.int .u8 (.r 0 0),.int .u8 (.r 0 0),.int .u8 (.r 0 0),.int .u8 (.r 0 0),.ff,.int .i64 (.r 0 0),.int .u64 (.r 0 0),.int .i64 (.r 0 0),.int .i64 (.r 0 0)]⟩) (.nd (some ⟨.func,1,8,[.nilf]⟩) (.lf) (.lf)) (.lf)) (.nd none (.nd none (.lf) (.lf)) (.lf))) (.nd (some ⟨.func,1,8,[.nilf]⟩) (.nd (some ⟨.func,1,8,[.nilf]⟩) (.nd (some ⟨.func,1,8,[.nilf]⟩) (.lf) (.lf)) (.lf)) (.nd (some ⟨.func,1,8,[.nilf]⟩) (.lf) (.lf))))) (.nd (some ⟨.arr 4 3,4,32,[.int .i64 (.r 0 0),.int .i64 (.r 0 0),.int .i64 (.r 0 0),.int .i64 (.r 0 0)]⟩) (.nd (some ⟨.arr 32 5,32,32,rep 32 (.int .u8 (.r 0 0))⟩) (.nd (some ⟨.func,1,8,[.nilf]⟩) (.nd (some ⟨.str [(4,0),(98,1)],3,24,[.ff,.int .i64 (.r 0 0),.int .i64 (.r 0 0)]⟩) (.nd (some ⟨.func,1,8,[.nilf]⟩) (.lf) (.lf)) (.lf)) (.nd none (.nd (some ⟨.func,1,8,[.nilf]⟩) (.lf) (.lf)) (.lf))) (.nd (some ⟨.arr 3 104,30,72,[.int .i64 (.r 0 0),.ff,.int .u8 (.r 0 0),.int .u8 (.r 0 0),.int .u8 (.r 0 0),.int .u8 (.r 0 0),.int .u8 (.r 0 0),.int .u8 (.r 0 0),.int .u8 (.r 0 0),.int .u8 (.r 0 0),.int .i64 (.r 0 0),.ff,.int .u8 (.r 0 0),.int .u8 (.r 0 0),.int .u8 (.r 0 0),.int .u8 (.r 0 0),.int .u8 (.r 0 0),.int .u8 (.r 0 0),.int .u8 (.r 0 0),.int .u8 (.r 0 0),.int .i64 (.r 0 0),.ff,.int .u8 (.r 0 0),.int .u8 (.r 0 0),.int .u8 (.r 0 0),.int .u8 (.r 0 0),.int .u8 (.r 0 0),.int .u8 (.r 0 0),.int .u8 (.r 0 0),.int .u8 (.r 0 0)]⟩) (.nd (some ⟨.str [(3,0),(3,1),(3,2),(3,3),(3,4),(3,5),(3,6),(4,7),(25,8)],12,96,[.int .i64 (.r 0 0),.int .i64 (.r 0 0),.int .i64 (.r 0 0),.int .i64 (.r 0 0),.int .i64 (.r 0 0),.int .i64 (.r 0 0),.int .i64 (.r 0 0),.ff,.int .i64 (.r 0 0),.int .i64 (.r 0 0),.int .i64 (.r 0 0),.int .i64 (.r 0 0)]⟩) (.nd (some ⟨.func,1,8,[.nilf]⟩) (.lf) (.lf)) (.lf)) (.nd (some ⟨.arr 6 232,12,96,rep 12 (.int .i64 (.r 0 0))⟩) (.lf) (.lf)))) (.nd (some ⟨.func,1,8,[.nilf]⟩) (.nd (some ⟨.func,1,8,[.nilf]⟩) (.nd (some ⟨.func,1,8,[.nilf]⟩) (.nd (some ⟨.func,1,8,[.nilf]⟩) (.lf) (.lf)) (.lf)) (.nd none (.nd (some ⟨.int .i32,1,4,[.int .i32 (.r 0 0)]⟩) (.lf) (.lf)) (.lf))) (.nd (some ⟨.func,1,8,[.nilf]⟩) (.nd none (.nd (some ⟨.func,1,8,[.nilf]⟩) (.lf) (.lf)) (.lf)) (.nd (some ⟨.func,1,8,[.nilf]⟩) (.lf) (.lf)))))
def tyT13:Tr TY:=.nd none (.nd (some ⟨.int .i32,1,4,[.int .i32 (.r 0 0)]⟩) (.nd (some ⟨.str [(3,0),(3,1),(25,2),(36,6),(36,9)],12,96,rep 12 (.int .i64 (.r 0 0))⟩) (.nd (some ⟨.arr 3 68,3,24,[.nilp,.nilp,.nilp]⟩) (.nd (some ⟨.func,1,8,[.nilf]⟩) (.nd (some ⟨.func,1,8,[.nilf]⟩) (.lf) (.lf)) (.lf)) (.nd (some ⟨.func,1,8,[.nilf]⟩) (.nd (some ⟨.func,1,8,[.nilf]⟩) (.lf) (.lf)) (.lf))) (.nd (some ⟨.ptr 158,1,8,[.nilp]⟩) (.nd (some ⟨.func,1,8,[.nilf]⟩) (.nd (some ⟨.func,1,8,[.nilf]⟩) (.lf) (.lf)) (.lf)) (.nd (some ⟨.func,1,8,[.nilf]⟩) (.lf) (.lf)))) (.nd (some ⟨.arr 5 4,5,5,[.ff,.ff,.ff,.ff,.ff]⟩) (.nd (some ⟨.func,1,8,[.nilf]⟩) (.nd (some ⟨.func,1,8,[.nilf]⟩) (.nd (some ⟨.func,1,8,[.nilf]⟩) (.lf) (.lf)) (.lf)) (.nd (some ⟨.func,1,8,[.nilf]⟩) (.nd (some ⟨.int .u8,1,1,[.int .u8 (.r 0 0)]⟩) (.lf) (.lf)) (.lf))) (.nd none (.nd (some ⟨.func,1,8,[.nilf]⟩) (.nd (some ⟨.slice 308,1,24,[.nils]⟩) (.lf) (.lf)) (.lf)) (.nd (some ⟨.func,1,8,[.nilf]⟩) (.lf) (.lf))))) (.nd (some ⟨.slice 48,1,24,[.nils]⟩) (.nd (some ⟨.str [(4,0),(25,1),(4,5)],6,48,[.ff,.int .i64 (.r 0 0),.int .i64 (.r 0 0),.int .i64 (.r 0 0),.int .i64 (.r 0 0),.ff]⟩) (.nd (some ⟨.func,1,8,[.nilf]⟩) (.nd (some ⟨.str [(138,0),(3,3),(41,4),(140,36)],39,88,[.ff,.int .i64 (.r 0 0),.int .i64 (.r 0 0),.int .i64 (.r 0 0),.int .u8 (.r 0 0),.int .u8 (.r 0 0),.int .u8 (.r 0 0),.int .u8 (.r 0 0),.int .u8 (.r 0 0),.int .u8 (.r 0 0),.int .u8 (.r 0 0),.int .u8 (.r 0 0),.int .u8 (.r 0 0),.int .u8 (.r 0 0),.int .u8 (.r 0 0),.int .u8 (.r 0 0),.int .u8 (.r 0 0),.int .u8 (.r 0 0),.int .u8 (.r 0 0),.int .u8 (.r 0 0),.int .u8 (.r 0 0),.int .u8 (.r 0 0),.int .u8 (.r 0 0),.int .u8 (.r 0 0),.int .u8 (.r 0 0),.int .u8 (.r 0 0),.int .u8 (.r 0 0),.int .u8 (.r 0 0),.int .u8 (.r 0 0),.int .u8 (.r 0 0),.int .u8 (.r 0 0),.int .u8 (.r 0 0),.int .u8 (.r 0 0),.int .u8 (.r 0 0),.int .u8 (.r 0 0),.int .u8 (.r 0 0),.ff,.int .i64 (.r 0 0),.int .u64 (.r 0 0)]⟩) (.nd (some ⟨.func,1,8,[.nilf]⟩) (.lf) (.lf)) (.lf)) (.nd (some ⟨.func,1,8,[.nilf]⟩) (.nd (some ⟨.func,1,8,[.nilf]⟩) (.lf) (.lf)) (.lf))) (.nd (some ⟨.slice 112,1,24,[.nils]⟩) (.nd none (.nd (some ⟨.func,1,8,[.nilf]⟩) (.lf) (.lf)) (.lf)) (.nd (some ⟨.func,1,8,[.nilf]⟩) (.lf) (.lf)))) (.nd (some ⟨.slice 43,1,24,[.nils]⟩) (.nd (some ⟨.str [(58,0),(23,1)],2,32,[.int .i64 (.r 0 0),.nils]⟩) (.nd (some ⟨.str [(132,0),(3,1),(134,2)],3,40,[.nils,.int .i64 (.r 0 0),.int .u64 (.r 0 0)]⟩) (.nd (some ⟨.arr 64 235,64,256,rep 64 (.int .u32 (.r 0 0))⟩) (.lf) (.lf)) (.lf)) (.nd (some ⟨.func,1,8,[.nilf]⟩) (.lf) (.lf))) (.nd (some ⟨.ptr 88,1,8,[.nilp]⟩) (.nd (some ⟨.func,1,8,[.nilf]⟩) (.nd none (.lf) (.lf)) (.lf)) (.nd (some ⟨.func,1,8,[.nilf]⟩) (.lf) (.lf)))))
def tyT8:Tr TY:=.nd (some ⟨.str [(2,0),(3,1),(4,2),(6,3)],4,24,[.int .i64 (.r 0 0),.int .i64 (.r 0 0),.ff,.int .u8 (.r 0 0)]⟩) (.nd (some ⟨.ptr 340,1,8,[.nilp]⟩) (.nd none (.nd (some ⟨.func,1,8,[.nilf]⟩) (.nd (some ⟨.func,1,8,[.nilf]⟩) (.nd (some ⟨.func,1,8,[.nilf]⟩) (.lf) (.lf)) (.lf)) (.nd (some ⟨.func,1,8,[.nilf]⟩) (.nd (some ⟨.func,1,8,[.nilf]⟩) (.lf) (.lf)) (.lf))) (.nd (some ⟨.func,1,8,[.nilf]⟩) (.nd (some ⟨.str [(3,0),(3,1),(3,2),(98,3),(98,5),(4,7)],8,64,[.int .i64 (.r 0 0),.int .i64 (.r 0 0),.int .i64 (.r 0 0),.int .i64 (.r 0 0),.int .i64 (.r 0 0),.int .i64 (.r 0 0),.int .i64 (.r 0 0),.ff]⟩) (.nd (some ⟨.func,1,8,[.nilf]⟩) (.lf) (.lf)) (.lf)) (.nd (some ⟨.iface,1,16,[.nili]⟩) (.lf) (.lf)))) (.nd (some ⟨.str [(3,0),(3,1),(23,2),(46,3),(4,9)],10,96,[.int .i64 (.r 0 0),.int .i64 (.r 0 0),.nils,.ff,.int .i64 (.r 0 0),.int .i64 (.r 0 0),.int .i64 (.r 0 0),.int .i64 (.r 0 0),.ff,.ff]⟩) (.nd (some ⟨.func,1,8,[.nilf]⟩) (.nd (some ⟨.str [(138,0),(143,3),(3,120),(3,121)],122,304,[.ff,.int .i64 (.r 0 0),.int .i64 (.r 0 0),.ff,.int .i64 (.r 0 0),.int .i64 (.r 0 0),.int .i64 (.r 0 0),.int .u8 (.r 0 0),.int .u8 (.r 0 0),.int .u8 (.r 0 0),.int .u8 (.r 0 0),.int .u8 (.r 0 0),.int .u8 (.r 0 0),.int .u8 (.r 0 0),.int .u8 (.r 0 0),.int .u8 (.r 0 0),.int .u8 (.r 0 0),.int .u8 (.r 0 0),.int .u8 (.r 0 0),.int .u8 (.r 0 0),.int .u8 (.r 0 0),.int .u8 (.r 0 0),.int .u8 (.r 0 0),.int .u8 (.r 0 0),.int .u8 (.r 0 0),.int .u8 (.r 0 0),.int .u8 (.r 0 0),.int .u8 (.r 0 0),.int .u8 (.r 0 0),.int .u8 (.r 0 0),.int .u8 (.r 0 0),.int .u8 (.r 0 0),.int .u8 (.r 0 0),.int .u8 (.r 0 0),.int .u8 (.r 0 0),.int .u8 (.r 0 0),.int .u8 (.r 0 0),.int .u8 (.r 0 0),.int .u8 (.r 0 0),.ff,.int .i64 (.r 0 0),.int .u64 (.r 0 0),.ff,.int .i64 (.r 0 0),.int .i64 (.r 0 0),.int .i64 (.r 0 0),.int .u8 (.r 0 0),.int .u8 (.r 0 0),.int .u8 (.r 0 0),.int .u8 (.r 0 0),.int .u8 (.r 0 0),.int .u8 (.r 0 0),.int .u8 (.r 0 0),.int .u8 (.r 0 0),.int .u8 (.r 0 0),.int .u8 (.r 0 0),.int .u8 (.r 0 0),.int .u8 (.r 0 0),.int .u8 (.r 0 0),.int .u8 (.r 0 0),.int .u8 (.r 0 0),.int .u8 (.r 0 0),.int .u8 (.r 0 0),.int .u8 (.r 0 0),.int .u8 (.r 0 0),.int .u8 (.r 0 0),.int .u8 (.r 0 0),.int .u8 (.r 0 0),.int .u8 (.r 0 0),.int .u8 (.r 0 0),.int .u8 (.r 0 0),.int .u8 (.r 0 0),.int .u8 (.r 0 0),.int .u8 (.r 0 0),.int .u8 (.r 0 0),.int .u8 (.r 0 0),.int .u8 (.r 0 0),.int .u8 (.r 0 0),.ff,.int .i64 (.r 0 0),.int .u64 (.r 0 0),.ff,.int .i64 (.r 0 0),.int .i64 (.r 0 0),.int .i64 (.r 0 0),.int .u8 (.r 0 0),.int .u8 (.r 0 0),.int .u8 (.r 0 0),.int .u8 (.r 0 0),.int .u8 (.r 0 0),.int .u8 (.r 0 0),.int .u8 (.r 0 0),.int .u8 (.r 0 0),.int .u8 (.r 0 0),.int .u8 (.r 0 0),.int .u8 (.r 0 0),.int .u8 (.r 0 0),.int .u8 (.r 0 0),.int .u8 (.r 0 0),.int .u8 (.r 0 0),.int .u8 (.r 0 0),.int .u8 (.r 0 0),.int .u8 (.r 0 0),.int .u8 (.r 0 0),.int .u8 (.r 0 0),.int .u8 (.r 0 0),.int .u8 (.r 0 0),.int .u8 (.r 0 0),.int .u8 (.r 0 0),.int .u8 (.r 0 0),.int .u8 (.r 0 0),.int .u8 (.r 0 0),.int .u8 (.r 0 0),.int .u8 (.r 0 0),.int .u8 (.r 0 0),.int .u8 (.r 0 0),.int .u8 (.r 0 0),.ff,.int .i64 (.r 0 0),.int .u64 (.r 0 0),.int .i64 (.r 0 0),.int .i64 (.r 0 0)]⟩) (.nd (some ⟨.iface,1,16,[.nili]⟩) (.lf) (.lf)) (.lf)) (.nd (some ⟨.func,1,8,[.nilf]⟩) (.nd none (.lf) (.lf)) (.lf))) (.nd (some ⟨.str [(3,0),(3,1),(98,2)],4,32,[.int .i64 (.r 0 0),.int .i64 (.r 0 0),.int .i64 (.r 0 0),.int .i64 (.r 0 0)]⟩) (.nd none (.nd (some ⟨.func,1,8,[.nilf]⟩) (.lf) (.lf)) (.lf)) (.nd (some ⟨.int .u16,1,2,[.int .u16 (.r 0 0)]⟩) (.lf) (.lf))))) (.nd (some ⟨.arr 3 23,3,72,[.nils,.nils,.nils]⟩) (.nd (some ⟨.slice 60,1,24,[.nils]⟩) (.nd (some ⟨.func,1,8,[.nilf]⟩) (.nd (some ⟨.str [(112,0),(134,4)],5,40,[.int .i64 (.r 0 0),.int .i64 (.r 0 0),.int .i64 (.r 0 0),.int .i64 (.r 0 0),.int .u64 (.r 0 0)]⟩) (.nd (some ⟨.func,1,8,[.nilf]⟩) (.lf) (.lf)) (.lf)) (.nd (some ⟨.str [(3,0),(3,1),(3,2),(3,3),(3,4),(58,5),(102,6)],14,56,[.int .i64 (.r 0 0),.int .i64 (.r 0 0),.int .i64 (.r 0 0),.int .i64 (.r 0 0),.int .i64 (.r 0 0),.int .i64 (.r 0 0),.int .u8 (.r 0 0),.int .u8 (.r 0 0),.int .u8 (.r 0 0),.int .u8 (.r 0 0),.int .u8 (.r 0 0),.int .u8 (.r 0 0),.int .u8 (.r 0 0),.int .u8 (.r 0 0)]⟩) (.nd (some ⟨.arr 5 3,5,40,[.int .i64 (.r 0 0),.int .i64 (.r 0 0),.int .i64 (.r 0 0),.int .i64 (.r 0 0),.int .i64 (.r 0 0)]⟩) (.lf) (.lf)) (.lf))) (.nd (some ⟨.str [(3,0),(4,1),(102,2)],10,24,[.int .i64 (.r 0 0),.ff,.int .u8 (.r 0 0),.int .u8 (.r 0 0),.int .u8 (.r 0 0),.int .u8 (.r 0 0),.int .u8 (.r 0 0),.int .u8 (.r 0 0),.int .u8 (.r 0 0),.int .u8 (.r 0 0)]⟩) (.nd (some ⟨.str [(3,0),(3,1),(3,2),(3,3),(3,4),(3,5),(3,6),(4,7),(25,8)],12,96,[.int .i64 (.r 0 0),.int .i64 (.r 0 0),.int .i64 (.r 0 0),.int .i64 (.r 0 0),.int .i64 (.r 0 0),.int .i64 (.r 0 0),.int .i64 (.r 0 0),.ff,.int .i64 (.r 0 0),.int .i64 (.r 0 0),.int .i64 (.r 0 0),.int .i64 (.r 0 0)]⟩) (.nd (some ⟨.func,1,8,[.nilf]⟩) (.lf) (.lf)) (.lf)) (.nd (some ⟨.str [(3,0),(3,1)],2,16,[.int .i64 (.r 0 0),.int .i64 (.r 0 0)]⟩) (.lf) (.lf)))) (.nd (some ⟨.func,1,8,[.nilf]⟩) (.nd (some ⟨.str [(67,0),(39,1),(40,2)],3,56,[.nilp,.nils,.nils]⟩) (.nd (some ⟨.func,1,8,[.nilf]⟩) (.nd none (.lf) (.lf)) (.lf)) (.nd (some ⟨.func,1,8,[.nilf]⟩) (.nd (some ⟨.int .i32,1,4,[.int .i32 (.r 0 0)]⟩) (.lf) (.lf)) (.lf))) (.nd (some ⟨.func,1,8,[.nilf]⟩) (.nd (some ⟨.func,1,8,[.nilf]⟩) (.nd (some ⟨.int .u64,1,8,[.int .u64 (.r 0 0)]⟩) (.lf) (.lf)) (.lf)) (.nd (some ⟨.func,1,8,[.nilf]⟩) (.lf) (.lf)))))
def tyT12:Tr TY:=.nd (some ⟨.int .u64,1,8,[.int .u64 (.r 0 0)]⟩) (.nd (some ⟨.iface,1,16,[.nili]⟩) (.nd (some ⟨.str [(3,0),(3,1),(3,2)],3,24,[.int .i64 (.r 0 0),.int .i64 (.r 0 0),.int .i64 (.r 0 0)]⟩) (.nd (some ⟨.ptr 124,1,8,[.nilp]⟩) (.nd (some ⟨.slice 136,1,24,[.nils]⟩) (.nd (some ⟨.func,1,8,[.nilf]⟩) (.lf) (.lf)) (.lf)) (.nd none (.nd (some ⟨.ptr 58,1,8,[.nilp]⟩) (.lf) (.lf)) (.lf))) (.nd (some ⟨.str [(3,0),(3,1),(3,2),(98,3),(98,5),(4,7)],8,64,[.int .i64 (.r 0 0),.int .i64 (.r 0 0),.int .i64 (.r 0 0),.int .i64 (.r 0 0),.int .i64 (.r 0 0),.int .i64 (.r 0 0),.int .i64 (.r 0 0),.ff]⟩) (.nd (some ⟨.func,1,8,[.nilf]⟩) (.nd (some ⟨.ptr 3,1,8,[.nilp]⟩) (.lf) (.lf)) (.lf)) (.nd (some ⟨.int .u64,1,8,[.int .u64 (.r 0 0)]⟩) (.lf) (.lf)))) (.nd (some ⟨.slice 3,1,24,[.nils]⟩) (.nd none (.nd (some ⟨.func,1,8,[.nilf]⟩) (.nd (some ⟨.func,1,8,[.nilf]⟩) (.lf) (.lf)) (.lf)) (.nd (some ⟨.func,1,8,[.nilf]⟩) (.nd (some ⟨.str [(338,0)],0,0,[]⟩) (.lf) (.lf)) (.lf))) (.nd (some ⟨.func,1,8,[.nilf]⟩) (.nd (some ⟨.func,1,8,[.nilf]⟩) (.nd (some ⟨.str [(58,0),(30,1)],2,16,[.int .i64 (.r 0 0),.nilf]⟩) (.lf) (.lf)) (.lf)) (.nd none (.lf) (.lf))))) (.nd (some ⟨.str [(22,0),(24,5),(23,8),(22,9),(26,14),(22,34),(3,39),(3,40),(3,41),(3,42),(3,43),(3,44),(3,45),(3,46),(3,47),(3,48),(3,49),(25,50),(3,54),(3,55)],56,512,[.int .i64 (.r 0 0),.int .i64 (.r 0 0),.int .i64 (.r 0 0),.int .i64 (.r 0 0),.int .i64 (.r 0 0),.nils,.nils,.nils,.nils,.int .i64 (.r 0 0),.int .i64 (.r 0 0),.int .i64 (.r 0 0),.int .i64 (.r 0 0),.int .i64 (.r 0 0),.int .i64 (.r 0 0),.int .i64 (.r 0 0),.int .i64 (.r 0 0),.int .i64 (.r 0 0),.int .i64 (.r 0 0),.int .i64 (.r 0 0),.int .i64 (.r 0 0),.int .i64 (.r 0 0),.int .i64 (.r 0 0),.int .i64 (.r 0 0),.int .i64 (.r 0 0),.int .i64 (.r 0 0),.int .i64 (.r 0 0),.int .i64 (.r 0 0),.int .i64 (.r 0 0),.int .i64 (.r 0 0),.int .i64 (.r 0 0),.int .i64 (.r 0 0),.int .i64 (.r 0 0),.int .i64 (.r 0 0),.int .i64 (.r 0 0),.int .i64 (.r 0 0),.int .i64 (.r 0 0),.int .i64 (.r 0 0),.int .i64 (.r 0 0),.int .i64 (.r 0 0),.int .i64 (.r 0 0),.int .i64 (.r 0 0),.int .i64 (.r 0 0),.int .i64 (.r 0 0),.int .i64 (.r 0 0),.int .i64 (.r 0 0),.int .i64 (.r 0 0),.int .i64 (.r 0 0),.int .i64 (.r 0 0),.int .i64 (.r 0 0),.int .i64 (.r 0 0),.int .i64 (.r 0 0),.int .i64 (.r 0 0),.int .i64 (.r 0 0),.int .i64 (.r 0 0),.int .i64 (.r 0 0)]⟩) (.nd (some ⟨.func,1,8,[.nilf]⟩) (.nd (some ⟨.func,1,8,[.nilf]⟩) (.nd (some ⟨.str [(4,0),(3,1),(134,2)],3,24,[.ff,.int .i64 (.r 0 0),.int .u64 (.r 0 0)]⟩) (.nd (some ⟨.func,1,8,[.nilf]⟩) (.lf) (.lf)) (.lf)) (.nd none (.nd (some ⟨.func,1,8,[.nilf]⟩) (.lf) (.lf)) (.lf))) (.nd (some ⟨.str [(28,0),(100,56),(101,64),(105,65),(106,95),(3,96),(3,97),(3,98),(36,99),(51,102),(41,114)],146,840,[.int .i64 (.r 0 0),.int .i64 (.r 0 0),.int .i64 (.r 0 0),.int .i64 (.r 0 0),.int .i64 (.r 0 0),.nils,.nils,.nils,.nils,.int .i64 (.r 0 0),.int .i64 (.r 0 0),.int .i64 (.r 0 0),.int .i64 (.r 0 0),.int .i64 (.r 0 0),.int .i64 (.r 0 0),.int .i64 (.r 0 0),.int .i64 (.r 0 0),.int .i64 (.r 0 0),.int .i64 (.r 0 0),.int .i64 (.r 0 0),.int .i64 (.r 0 0),.int .i64 (.r 0 0),.int .i64 (.r 0 0),.int .i64 (.r 0 0),.int .i64 (.r 0 0),.int .i64 (.r 0 0),.int .i64 (.r 0 0),.int .i64 (.r 0 0),.int .i64 (.r 0 0),.int .i64 (.r 0 0),.int .i64 (.r 0 0),.int .i64 (.r 0 0),.int .i64 (.r 0 0),.int .i64 (.r 0 0),.int .i64 (.r 0 0),.int .i64 (.r 0 0),.int .i64 (.r 0 0),.int .i64 (.r 0 0),.int .i64 (.r 0 0),.int .i64 (.r 0 0),.int .i64 (.r 0 0),.int .i64 (.r 0 0),.int .i64 (.r 0 0),.int .i64 (.r 0 0),.int .i64 (.r 0 0),.int .i64 (.r 0 0),.int .i64 (.r 0 0),.int .i64 (.r 0 0),.int .i64 (.r 0 0),.int .i64 (.r 0 0),.int .i64 (.r 0 0),.int .i64 (.r 0 0),.int .i64 (.r 0 0),.int .i64 (.r 0 0),.int .i64 (.r 0 0),.int .i64 (.r 0 0),.int .i64 (.r 0 0),.int .i64 (.r 0 0),.int .i64 (.r 0 0),.int .i64 (.r 0 0),.int .i64 (.r 0 0),.int .i64 (.r 0 0),.int .i64 (.r 0 0),.ff,.nilp,.int .i64 (.r 0 0),.ff,.int .u8 (.r 0 0),.int .u8 (.r 0 0),.int .u8 (.r 0 0),.int .u8 (.r 0 0),.int .u8 (.r 0 0),.int .u8 (.r 0 0),.int .u8 (.r 0 0),.int .u8 (.r 0 0),.int .i64 (.r 0 0),.ff,.int .u8 (.r 0 0),.int .u8 (.r 0 0),.int .u8 (.r 0 0),.int .u8 (.r 0 0),.int .u8 (.r 0 0),.int .u8 (.r 0 0),.int .u8 (.r 0 0),.int .u8 (.r 0 0),.int .i64 (.r 0 0),.ff,.int .u8 (.r 0 0),.int .u8 (.r 0 0),.int .u8 (.r 0 0),.int .u8 (.r 0 0),.int .u8 (.r 0 0),.int .u8 (.r 0 0),.int .u8 (.r 0 0),.int .u8 (.r 0 0),.nilp,.int .i64 (.r 0 0),.int .i64 (.r 0 0),.int .i64 (.r 0 0),.int .i64 (.r 0 0),.int .i64 (.r 0 0),.int .i64 (.r 0 0),.int .i64 (.r 0 0),.int .i64 (.r 0 0),.int .i64 (.r 0 0),.int .i64 (.r 0 0),.int .i64 (.r 0 0),.int .i64 (.r 0 0),.int .i64 (.r 0 0),.int .i64 (.r 0 0),.int .i64 (.r 0 0),.int .i64 (.r 0 0),.int .i64 (.r 0 0),.int .i64 (.r 0 0),.int .u8 (.r 0 0),.int .u8 (.r 0 0),.int .u8 (.r 0 0),.int .u8 (.r 0 0),.int .u8 (.r 0 0),.int .u8 (.r 0 0),.int .u8 (.r 0 0),.int .u8 (.r 0 0),.int .u8 (.r 0 0),.int .u8 (.r 0 0),.int .u8 (.r 0 0),.int .u8 (.r 0 0),.int .u8 (.r 0 0),.int .u8 (.r 0 0),.int .u8 (.r 0 0),.int .u8 (.r 0 0),.int .u8 (.r 0 0),.int .u8 (.r 0 0),.int .u8 (.r 0 0),.int .u8 (.r 0 0),.int .u8 (.r 0 0),.int .u8 (.r 0 0),.int .u8 (.r 0 0),.int .u8 (.r 0 0),.int .u8 (.r 0 0),.int .u8 (.r 0 0),.int .u8 (.r 0 0),.int .u8 (.r 0 0),.int .u8 (.r 0 0),.int .u8 (.r 0 0),.int .u8 (.r 0 0),.int .u8 (.r 0 0)]⟩) (.nd (some ⟨.func,1,8,[.nilf]⟩) (.nd none (.lf) (.lf)) (.lf)) (.nd (some ⟨.arr 8 235,8,32,[.int .u32 (.r 0 0),.int .u32 (.r 0 0),.int .u32 (.r 0 0),.int .u32 (.r 0 0),.int .u32 (.r 0 0),.int .u32 (.r 0 0),.int .u32 (.r 0 0),.int .u32 (.r 0 0)]⟩) (.lf) (.lf)))) (.nd (some ⟨.str [(3,0),(3,1),(3,2),(3,3),(58,4),(3,5)],6,48,[.int .i64 (.r 0 0),.int .i64 (.r 0 0),.int .i64 (.r 0 0),.int .i64 (.r 0 0),.int .i64 (.r 0 0),.int .i64 (.r 0 0)]⟩) (.nd (some ⟨.str [(58,0),(23,1)],2,32,[.int .i64 (.r 0 0),.nils]⟩) (.nd (some ⟨.func,1,8,[.nilf]⟩) (.nd (some ⟨.func,1,8,[.nilf]⟩) (.lf) (.lf)) (.lf)) (.nd (some ⟨.func,1,8,[.nilf]⟩) (.nd none (.lf) (.lf)) (.lf))) (.nd (some ⟨.str [(23,0)],1,24,[.nils]⟩) (.nd (some ⟨.func,1,8,[.nilf]⟩) (.nd (some ⟨.func,1,8,[.nilf]⟩) (.lf) (.lf)) (.lf)) (.nd (some ⟨.str [(3,0),(23,1)],2,32,[.int .i64 (.r 0 0),.nils]⟩) (.lf) (.lf)))))
def tyT10:Tr TY:=.nd none (.nd (some ⟨.str [(17,0)],1,8,[.nilp]⟩) (.nd (some ⟨.func,1,8,[.nilf]⟩) (.nd (some ⟨.func,1,8,[.nilf]⟩) (.nd (some ⟨.func,1,8,[.nilf]⟩) (.nd (some ⟨.func,1,8,[.nilf]⟩) (.lf) (.lf)) (.lf)) (.nd (some ⟨.func,1,8,[.nilf]⟩) (.nd (some ⟨.ptr 5,1,8,[.nilp]⟩) (.lf) (.lf)) (.lf))) (.nd (some ⟨.str [(3,0),(3,1)],2,16,[.int .i64 (.r 0 0),.int .i64 (.r 0 0)]⟩) (.nd (some ⟨.str [(3,0),(3,1),(58,2),(23,3)],4,48,[.int .i64 (.r 0 0),.int .i64 (.r 0 0),.int .i64 (.r 0 0),.nils]⟩) (.nd (some ⟨.str [(3,0),(3,1),(3,2),(226,3),(184,4)],5,40,[.int .i64 (.r 0 0),.int .i64 (.r 0 0),.int .i64 (.r 0 0),.nilf,.nilf]⟩) (.lf) (.lf)) (.lf)) (.nd (some ⟨.func,1,8,[.nilf]⟩) (.lf) (.lf)))) (.nd (some ⟨.str [(3,0),(25,1),(25,5),(36,9)],12,96,rep 12 (.int .i64 (.r 0 0))⟩) (.nd (some ⟨.func,1,8,[.nilf]⟩) (.nd (some ⟨.ptr 142,1,8,[.nilp]⟩) (.nd (some ⟨.func,1,8,[.nilf]⟩) (.lf) (.lf)) (.lf)) (.nd (some ⟨.func,1,8,[.nilf]⟩) (.nd (some ⟨.arr 0 16,0,0,[]⟩) (.lf) (.lf)) (.lf))) (.nd (some ⟨.func,1,8,[.nilf]⟩) (.nd (some ⟨.func,1,8,[.nilf]⟩) (.nd (some ⟨.func,1,8,[.nilf]⟩) (.lf) (.lf)) (.lf)) (.nd (some ⟨.func,1,8,[.nilf]⟩) (.lf) (.lf))))) (.nd (some ⟨.arr 5 25,20,160,rep 20 (.int .i64 (.r 0 0))⟩) (.nd (some ⟨.str [(38,0),(39,12),(40,13),(41,14)],46,176,[.int .i64 (.r 0 0),.int .i64 (.r 0 0),.int .i64 (.r 0 0),.int .i64 (.r 0 0),.int .i64 (.r 0 0),.int .i64 (.r 0 0),.int .i64 (.r 0 0),.int .i64 (.r 0 0),.int .i64 (.r 0 0),.int .i64 (.r 0 0),.int .i64 (.r 0 0),.int .i64 (.r 0 0),.nils,.nils,.int .u8 (.r 0 0),.int .u8 (.r 0 0),.int .u8 (.r 0 0),.int .u8 (.r 0 0),.int .u8 (.r 0 0),.int .u8 (.r 0 0),.int .u8 (.r 0 0),.int .u8 (.r 0 0),.int .u8 (.r 0 0),.int .u8 (.r 0 0),.int .u8 (.r 0 0),.int .u8 (.r 0 0),.int .u8 (.r 0 0),.int .u8 (.r 0 0),.int .u8 (.r 0 0),.int .u8 (.r 0 0),.int .u8 (.r 0 0),.int .u8 (.r 0 0),.int .u8 (.r 0 0),.int .u8 (.r 0 0),.int .u8 (.r 0 0),.int .u8 (.r 0 0),.int .u8 (.r 0 0),.int .u8 (.r 0 0),.int .u8 (.r 0 0),.int .u8 (.r 0 0),.int .u8 (.r 0 0),.int .u8 (.r 0 0),.int .u8 (.r 0 0),.int .u8 (.r 0 0),.int .u8 (.r 0 0),.int .u8 (.r 0 0)]⟩) (.nd (some ⟨.func,1,8,[.nilf]⟩) (.nd (some ⟨.str [(4,0),(98,1)],3,24,[.ff,.int .i64 (.r 0 0),.int .i64 (.r 0 0)]⟩) (.nd (some ⟨.func,1,8,[.nilf]⟩) (.lf) (.lf)) (.lf)) (.nd (some ⟨.func,1,8,[.nilf]⟩) (.nd (some ⟨.ptr 312,1,8,[.nilp]⟩) (.lf) (.lf)) (.lf))) (.nd (some ⟨.ptr 145,1,8,[.nilp]⟩) (.nd none (.nd (some ⟨.func,1,8,[.nilf]⟩) (.lf) (.lf)) (.lf)) (.nd (some ⟨.func,1,8,[.nilf]⟩) (.lf) (.lf)))) (.nd (some ⟨.int .i64,1,8,[.int .i64 (.r 0 0)]⟩) (.nd (some ⟨.slice 93,1,24,[.nils]⟩) (.nd (some ⟨.slice 25,1,24,[.nils]⟩) (.nd (some ⟨.func,1,8,[.nilf]⟩) (.lf) (.lf)) (.lf)) (.nd (some ⟨.func,1,8,[.nilf]⟩) (.nd (some ⟨.str [(12,0),(12,1),(235,2),(341,3),(5,4),(5,5),(342,6),(343,7),(322,8),(344,9),(345,10)],11,48,[.int .u64 (.r 0 0),.int .u64 (.r 0 0),.int .u32 (.r 0 0),.int .u8 (.r 0 0),.int .u8 (.r 0 0),.int .u8 (.r 0 0),.int .u8 (.r 0 0),.nilf,.nilp,.int .i32 (.r 0 0),.int .i32 (.r 0 0)]⟩) (.lf) (.lf)) (.lf))) (.nd (some ⟨.func,1,8,[.nilf]⟩) (.nd (some ⟨.func,1,8,[.nilf]⟩) (.nd (some ⟨.func,1,8,[.nilf]⟩) (.lf) (.lf)) (.lf)) (.nd (some ⟨.func,1,8,[.nilf]⟩) (.lf) (.lf)))))
def tyT14:Tr TY:=.nd none (.nd (some ⟨.arr 5 3,5,40,[.int .i64 (.r 0 0),.int .i64 (.r 0 0),.int .i64 (.r 0 0),.int .i64 (.r 0 0),.int .i64 (.r 0 0)]⟩) (.nd (some ⟨.str [(3,0),(3,1),(25,2),(36,6),(36,9)],12,96,rep 12 (.int .i64 (.r 0 0))⟩) (.nd (some ⟨.str [(67,0),(58,1),(69,2)],5,40,[.nilp,.int .i64 (.r 0 0),.nilp,.nilp,.nilp]⟩) (.nd (some ⟨.int .u64,1,8,[.int .u64 (.r 0 0)]⟩) (.nd none (.lf) (.lf)) (.lf)) (.nd (some ⟨.func,1,8,[.nilf]⟩) (.nd (some ⟨.func,1,8,[.nilf]⟩) (.lf) (.lf)) (.lf))) (.nd (some ⟨.arr 8 5,8,8,[.int .u8 (.r 0 0),.int .u8 (.r 0 0),.int .u8 (.r 0 0),.int .u8 (.r 0 0),.int .u8 (.r 0 0),.int .u8 (.r 0 0),.int .u8 (.r 0 0),.int .u8 (.r 0 0)]⟩) (.nd (some ⟨.func,1,8,[.nilf]⟩) (.nd (some ⟨.ptr 4,1,8,[.nilp]⟩) (.lf) (.lf)) (.lf)) (.nd (some ⟨.func,1,8,[.nilf]⟩) (.lf) (.lf)))) (.nd (some ⟨.str [(3,0),(3,1),(3,2),(3,3),(36,4),(51,7),(52,19),(53,20),(22,25),(4,30)],31,232,[.int .i64 (.r 0 0),.int .i64 (.r 0 0),.int .i64 (.r 0 0),.int .i64 (.r 0 0),.int .i64 (.r 0 0),.int .i64 (.r 0 0),.int .i64 (.r 0 0),.int .i64 (.r 0 0),.int .i64 (.r 0 0),.int .i64 (.r 0 0),.int .i64 (.r 0 0),.int .i64 (.r 0 0),.int .i64 (.r 0 0),.int .i64 (.r 0 0),.int .i64 (.r 0 0),.int .i64 (.r 0 0),.int .i64 (.r 0 0),.int .i64 (.r 0 0),.int .i64 (.r 0 0),.nils,.ff,.ff,.ff,.ff,.ff,.int .i64 (.r 0 0),.int .i64 (.r 0 0),.int .i64 (.r 0 0),.int .i64 (.r 0 0),.int .i64 (.r 0 0),.ff]⟩) (.nd (some ⟨.func,1,8,[.nilf]⟩) (.nd (some ⟨.slice 23,1,24,[.nils]⟩) (.nd (some ⟨.func,1,8,[.nilf]⟩) (.lf) (.lf)) (.lf)) (.nd (some ⟨.func,1,8,[.nilf]⟩) (.nd (some ⟨.int .u8,1,1,[.int .u8 (.r 0 0)]⟩) (.lf) (.lf)) (.lf))) (.nd (some ⟨.func,1,8,[.nilf]⟩) (.nd (some ⟨.func,1,8,[.nilf]⟩) (.nd none (.lf) (.lf)) (.lf)) (.nd (some ⟨.ptr 169,1,8,[.nilp]⟩) (.lf) (.lf))))) (.nd (some ⟨.func,1,8,[.nilf]⟩) (.nd (some ⟨.str [(4,0),(25,1),(4,5)],6,48,[.ff,.int .i64 (.r 0 0),.int .i64 (.r 0 0),.int .i64 (.r 0 0),.int .i64 (.r 0 0),.ff]⟩) (.nd (some ⟨.str [(61,0)],1,24,[.nils]⟩) (.nd (some ⟨.str [(138,0),(3,3),(41,4),(140,36)],39,88,[.ff,.int .i64 (.r 0 0),.int .i64 (.r 0 0),.int .i64 (.r 0 0),.int .u8 (.r 0 0),.int .u8 (.r 0 0),.int .u8 (.r 0 0),.int .u8 (.r 0 0),.int .u8 (.r 0 0),.int .u8 (.r 0 0),.int .u8 (.r 0 0),.int .u8 (.r 0 0),.int .u8 (.r 0 0),.int .u8 (.r 0 0),.int .u8 (.r 0 0),.int .u8 (.r 0 0),.int .u8 (.r 0 0),.int .u8 (.r 0 0),.int .u8 (.r 0 0),.int .u8 (.r 0 0),.int .u8 (.r 0 0),.int .u8 (.r 0 0),.int .u8 (.r 0 0),.int .u8 (.r 0 0),.int .u8 (.r 0 0),.int .u8 (.r 0 0),.int .u8 (.r 0 0),.int .u8 (.r 0 0),.int .u8 (.r 0 0),.int .u8 (.r 0 0),.int .u8 (.r 0 0),.int .u8 (.r 0 0),.int .u8 (.r 0 0),.int .u8 (.r 0 0),.int .u8 (.r 0 0),.int .u8 (.r 0 0),.ff,.int .i64 (.r 0 0),.int .u64 (.r 0 0)]⟩) (.nd (some ⟨.func,1,8,[.nilf]⟩) (.lf) (.lf)) (.lf)) (.nd none (.nd (some ⟨.func,1,8,[.nilf]⟩) (.lf) (.lf)) (.lf))) (.nd (some ⟨.func,1,8,[.nilf]⟩) (.nd none (.nd (some ⟨.func,1,8,[.nilf]⟩) (.lf) (.lf)) (.lf)) (.nd (some ⟨.func,1,8,[.nilf]⟩) (.lf) (.lf)))) (.nd none (.nd (some ⟨.func,1,8,[.nilf]⟩) (.nd (some ⟨.str [(132,0),(3,1),(134,2)],3,40,[.nils,.int .i64 (.r 0 0),.int .u64 (.r 0 0)]⟩) (.nd (some ⟨.func,1,8,[.nilf]⟩) (.lf) (.lf)) (.lf)) (.nd (some ⟨.func,1,8,[.nilf]⟩) (.lf) (.lf))) (.nd none (.nd (some ⟨.func,1,8,[.nilf]⟩) (.nd (some ⟨.func,1,8,[.nilf]⟩) (.lf) (.lf)) (.lf)) (.nd (some ⟨.func,1,8,[.nilf]⟩) (.lf) (.lf)))))
def tyT:Tr TY:=.nd none (.nd (some ⟨.func,1,8,[.nilf]⟩) (.nd (some ⟨.int .i64,1,8,[.int .i64 (.r 0 0)]⟩) (tyT7) (tyT11)) (.nd (some ⟨.int .u8,1,1,[.int .u8 (.r 0 0)]⟩) (tyT9) (tyT13))) (.nd (some ⟨.int .i64,1,8,[.int .i64 (.r 0 0)]⟩) (.nd (some ⟨.bool,1,1,[.ff]⟩) (tyT8) (tyT12)) (.nd (some ⟨.int .u8,1,1,[.int .u8 (.r 0 0)]⟩) (tyT10) (tyT14)))
noncomputable def fnT7:Tr Func:=.nd (some Tryz.f7) (.nd (some Tryz.f15) (.nd (some Tryz.f31) (.nd (some Tryz.f63) (.nd (some Tryz.f127) (.nd none (.lf) (.lf)) (.lf)) (.nd (some Tryz.f191) (.lf) (.lf))) (.nd (some Tryz.f95) (.nd (some Tryz.f159) (.lf) (.lf)) (.nd (some Tryz.f223) (.lf) (.lf)))) (.nd (some Tryz.f47) (.nd (some Tryz.f79) (.nd (some Tryz.f143) (.lf) (.lf)) (.nd (some Tryz.f207) (.lf) (.lf))) (.nd (some Tryz.f111) (.nd (some Tryz.f175) (.lf) (.lf)) (.nd (some Tryz.f239) (.lf) (.lf))))) (.nd (some Tryz.f23) (.nd (some Tryz.f39) (.nd (some Tryz.f71) (.nd (some Tryz.f135) (.nd (some Tryz.f263) (.lf) (.lf)) (.lf)) (.nd (some Tryz.f199) (.lf) (.lf))) (.nd (some Tryz.f103) (.nd (some Tryz.f167) (.lf) (.lf)) (.nd (some Tryz.f231) (.lf) (.lf)))) (.nd (some Tryz.f55) (.nd (some Tryz.f87) (.nd (some Tryz.f151) (.lf) (.lf)) (.nd (some Tryz.f215) (.lf) (.lf))) (.nd (some Tryz.f119) (.nd (some Tryz.f183) (.lf) (.lf)) (.nd none (.lf) (.lf)))))
noncomputable def fnT11:Tr Func:=.nd (some Tryz.f11) (.nd (some Tryz.f19) (.nd (some Tryz.f35) (.nd (some Tryz.f67) (.nd (some Tryz.f131) (.nd (some Tryz.f259) (.lf) (.lf)) (.lf)) (.nd (some Tryz.f195) (.lf) (.lf))) (.nd (some Tryz.f99) (.nd (some Tryz.f163) (.lf) (.lf)) (.nd (some Tryz.f227) (.lf) (.lf)))) (.nd (some Tryz.f51) (.nd (some Tryz.f83) (.nd (some Tryz.f147) (.lf) (.lf)) (.nd (some Tryz.f211) (.lf) (.lf))) (.nd (some Tryz.f115) (.nd (some Tryz.f179) (.lf) (.lf)) (.nd none (.lf) (.lf))))) (.nd (some Tryz.f27) (.nd (some Tryz.f43) (.nd (some Tryz.f75) (.nd (some Tryz.f139) (.lf) (.lf)) (.nd (some Tryz.f203) (.lf) (.lf))) (.nd (some Tryz.f107) (.nd (some Tryz.f171) (.lf) (.lf)) (.nd (some Tryz.f235) (.lf) (.lf)))) (.nd (some Tryz.f59) (.nd (some Tryz.f91) (.nd (some Tryz.f155) (.lf) (.lf)) (.nd (some Tryz.f219) (.lf) (.lf))) (.nd (some Tryz.f123) (.nd (some Tryz.f187) (.lf) (.lf)) (.nd none (.lf) (.lf)))))
noncomputable def fnT9:Tr Func:=.nd (some Tryz.f9) (.nd (some Tryz.f17) (.nd (some Tryz.f33) (.nd (some Tryz.f65) (.nd (some Tryz.f129) (.nd none (.lf) (.lf)) (.lf)) (.nd (some Tryz.f193) (.lf) (.lf))) (.nd (some Tryz.f97) (.nd (some Tryz.f161) (.lf) (.lf)) (.nd (some Tryz.f225) (.lf) (.lf)))) (.nd (some Tryz.f49) (.nd (some Tryz.f81) (.nd (some Tryz.f145) (.lf) (.lf)) (.nd (some Tryz.f209) (.lf) (.lf))) (.nd (some Tryz.f113) (.nd (some Tryz.f177) (.lf) (.lf)) (.nd none (.lf) (.lf))))) (.nd (some Tryz.f25) (.nd (some Tryz.f41) (.nd (some Tryz.f73) (.nd (some Tryz.f137) (.lf) (.lf)) (.nd (some Tryz.f201) (.lf) (.lf))) (.nd (some Tryz.f105) (.nd (some Tryz.f169) (.lf) (.lf)) (.nd (some Tryz.f233) (.lf) (.lf)))) (.nd (some Tryz.f57) (.nd (some Tryz.f89) (.nd (some Tryz.f153) (.lf) (.lf)) (.nd (some Tryz.f217) (.lf) (.lf))) (.nd (some Tryz.f121) (.nd (some Tryz.f185) (.lf) (.lf)) (.nd none (.lf) (.lf)))))
noncomputable def fnT13:Tr Func:=.nd (some Tryz.f13) (.nd (some Tryz.f21) (.nd (some Tryz.f37) (.nd (some Tryz.f69) (.nd (some Tryz.f133) (.nd (some Tryz.f261) (.lf) (.lf)) (.lf)) (.nd (some Tryz.f197) (.lf) (.lf))) (.nd (some Tryz.f101) (.nd (some Tryz.f165) (.lf) (.lf)) (.nd (some Tryz.f229) (.lf) (.lf)))) (.nd (some Tryz.f53) (.nd (some Tryz.f85) (.nd (some Tryz.f149) (.lf) (.lf)) (.nd (some Tryz.f213) (.lf) (.lf))) (.nd (some Tryz.f117) (.nd (some Tryz.f181) (.lf) (.lf)) (.nd none (.lf) (.lf))))) (.nd (some Tryz.f29) (.nd (some Tryz.f45) (.nd (some Tryz.f77) (.nd (some Tryz.f141) (.lf) (.lf)) (.nd (some Tryz.f205) (.lf) (.lf))) (.nd (some Tryz.f109) (.nd (some Tryz.f173) (.lf) (.lf)) (.nd (some Tryz.f237) (.lf) (.lf)))) (.nd (some Tryz.f61) (.nd (some Tryz.f93) (.nd (some Tryz.f157) (.lf) (.lf)) (.nd (some Tryz.f221) (.lf) (.lf))) (.nd (some Tryz.f125) (.nd (some Tryz.f189) (.lf) (.lf)) (.nd none (.lf) (.lf)))))
noncomputable def fnT8:Tr Func:=.nd (some Tryz.f8) (.nd (some Tryz.f16) (.nd (some Tryz.f32) (.nd (some Tryz.f64) (.nd (some Tryz.f128) (.nd none (.lf) (.lf)) (.lf)) (.nd (some Tryz.f192) (.lf) (.lf))) (.nd (some Tryz.f96) (.nd (some Tryz.f160) (.lf) (.lf)) (.nd (some Tryz.f224) (.lf) (.lf)))) (.nd (some Tryz.f48) (.nd (some Tryz.f80) (.nd (some Tryz.f144) (.lf) (.lf)) (.nd (some Tryz.f208) (.lf) (.lf))) (.nd (some Tryz.f112) (.nd (some Tryz.f176) (.lf) (.lf)) (.nd (some Tryz.f240) (.lf) (.lf))))) (.nd (some Tryz.f24) (.nd (some Tryz.f40) (.nd (some Tryz.f72) (.nd (some Tryz.f136) (.nd (some Tryz.f264) (.lf) (.lf)) (.lf)) (.nd (some Tryz.f200) (.lf) (.lf))) (.nd (some Tryz.f104) (.nd (some Tryz.f168) (.lf) (.lf)) (.nd (some Tryz.f232) (.lf) (.lf)))) (.nd (some Tryz.f56) (.nd (some Tryz.f88) (.nd (some Tryz.f152) (.lf) (.lf)) (.nd (some Tryz.f216) (.lf) (.lf))) (.nd (some Tryz.f120) (.nd (some Tryz.f184) (.lf) (.lf)) (.nd none (.lf) (.lf)))))
noncomputable def fnT12:Tr Func:=.nd (some Tryz.f12) (.nd (some Tryz.f20) (.nd (some Tryz.f36) (.nd (some Tryz.f68) (.nd (some Tryz.f132) (.nd (some Tryz.f260) (.lf) (.lf)) (.lf)) (.nd (some Tryz.f196) (.lf) (.lf))) (.nd (some Tryz.f100) (.nd (some Tryz.f164) (.lf) (.lf)) (.nd (some Tryz.f228) (.lf) (.lf)))) (.nd (some Tryz.f52) (.nd (some Tryz.f84) (.nd (some Tryz.f148) (.lf) (.lf)) (.nd (some Tryz.f212) (.lf) (.lf))) (.nd (some Tryz.f116) (.nd (some Tryz.f180) (.lf) (.lf)) (.nd none (.lf) (.lf))))) (.nd (some Tryz.f28) (.nd (some Tryz.f44) (.nd (some Tryz.f76) (.nd (some Tryz.f140) (.lf) (.lf)) (.nd (some Tryz.f204) (.lf) (.lf))) (.nd (some Tryz.f108) (.nd (some Tryz.f172) (.lf) (.lf)) (.nd (some Tryz.f236) (.lf) (.lf)))) (.nd (some Tryz.f60) (.nd (some Tryz.f92) (.nd (some Tryz.f156) (.lf) (.lf)) (.nd (some Tryz.f220) (.lf) (.lf))) (.nd (some Tryz.f124) (.nd none (.lf) (.lf)) (.nd none (.lf) (.lf)))))
noncomputable def fnT10:Tr Func:=.nd (some Tryz.f10) (.nd (some Tryz.f18) (.nd (some Tryz.f34) (.nd (some Tryz.f66) (.nd (some Tryz.f130) (.nd (some Tryz.f258) (.lf) (.lf)) (.lf)) (.nd (some Tryz.f194) (.lf) (.lf))) (.nd (some Tryz.f98) (.nd (some Tryz.f162) (.lf) (.lf)) (.nd (some Tryz.f226) (.lf) (.lf)))) (.nd (some Tryz.f50) (.nd (some Tryz.f82) (.nd (some Tryz.f146) (.lf) (.lf)) (.nd (some Tryz.f210) (.lf) (.lf))) (.nd (some Tryz.f114) (.nd (some Tryz.f178) (.lf) (.lf)) (.nd none (.lf) (.lf))))) (.nd (some Tryz.f26) (.nd (some Tryz.f42) (.nd (some Tryz.f74) (.nd (some Tryz.f138) (.lf) (.lf)) (.nd (some Tryz.f202) (.lf) (.lf))) (.nd (some Tryz.f106) (.nd (some Tryz.f170) (.lf) (.lf)) (.nd (some Tryz.f234) (.lf) (.lf)))) (.nd (some Tryz.f58) (.nd (some Tryz.f90) (.nd (some Tryz.f154) (.lf) (.lf)) (.nd (some Tryz.f218) (.lf) (.lf))) (.nd (some Tryz.f122) (.nd (some Tryz.f186) (.lf) (.lf)) (.nd none (.lf) (.lf)))))
noncomputable def fnT14:Tr Func:=.nd (some Tryz.f14) (.nd (some Tryz.f22) (.nd (some Tryz.f38) (.nd (some Tryz.f70) (.nd (some Tryz.f134) (.nd (some Tryz.f262) (.lf) (.lf)) (.lf)) (.nd (some Tryz.f198) (.lf) (.lf))) (.nd (some Tryz.f102) (.nd (some Tryz.f166) (.lf) (.lf)) (.nd (some Tryz.f230) (.lf) (.lf)))) (.nd (some Tryz.f54) (.nd (some Tryz.f86) (.nd (some Tryz.f150) (.lf) (.lf)) (.nd (some Tryz.f214) (.lf) (.lf))) (.nd (some Tryz.f118) (.nd (some Tryz.f182) (.lf) (.lf)) (.nd none (.lf) (.lf))))) (.nd (some Tryz.f30) (.nd (some Tryz.f46) (.nd (some Tryz.f78) (.nd (some Tryz.f142) (.lf) (.lf)) (.nd (some Tryz.f206) (.lf) (.lf))) (.nd (some Tryz.f110) (.nd (some Tryz.f174) (.lf) (.lf)) (.nd (some Tryz.f238) (.lf) (.lf)))) (.nd (some Tryz.f62) (.nd (some Tryz.f94) (.nd (some Tryz.f158) (.lf) (.lf)) (.nd (some Tryz.f222) (.lf) (.lf))) (.nd (some Tryz.f126) (.nd (some Tryz.f190) (.lf) (.lf)) (.nd none (.lf) (.lf)))))
noncomputable def fnT:Tr Func:=.nd none (.nd none (.nd (some Tryz.f3) (fnT7) (fnT11)) (.nd (some Tryz.f5) (fnT9) (fnT13))) (.nd none (.nd (some Tryz.f4) (fnT8) (fnT12)) (.nd (some Tryz.f6) (fnT10) (fnT14)))
end SE
end
end Go.Proofs.YtdgejnakakjgfaaGreatDoor
