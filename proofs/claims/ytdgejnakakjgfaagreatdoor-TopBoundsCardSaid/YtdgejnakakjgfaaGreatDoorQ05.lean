/- The symbolic executor: one operation, its wp. The symbolic executor: tests, guards, regions in the order of the text. The symbolic executor: operations that make no change to what there is. -/
import Derived.Test.YtdgejnakakjgfaaGreatDoorQ04
import Derived.Tactics
set_option linter.unusedVariables false
set_option linter.unusedSimpArgs false
set_option maxRecDepth 100000
namespace Go.Proofs.YtdgejnakakjgfaaGreatDoor
section
namespace SE
variable {X:Px} {own0:Nat→Prop} {w0 w:World} {E:Env} {st:St} {tm:TT} {a:Act}
def Outs (X:Px) (own0:Nat→Prop) (w0:World) (E:Env) (l:Out) (e:Ending) (w':World):Prop :=
  ∃ o∈l,∃ E' x,E.le E'∧e=.returned x∧R E' o.1 x∧G X own0 w0 E' o.2 w'
def CallOk (X:Px) (own0:Nat→Prop) (w0:World) (call:Nat→List SV→St→Option Out):Prop :=
  ∀ g args st l,call g args st=some l→(∃ fn,X.T.fn.get g=some fn)∧∀ E w (vals:Array Value),G X own0 w0 E st w→RL E args vals.toList→Calls X.P g vals w (Outs X own0 w0 E l)
structure RkOk (X:Px):Prop where
  app:AppOk X
  fn:∀ g,X.T.rkB g=true→∃ fn,X.T.fn.get g=some fn
  ok:∀ g args st v,X.T.rkB g=true→X.T.rk g args st=some v→∀ own0 w0 E w,G X own0 w0 E st w→∀ vals:Array Value,RL E args vals.toList →
    ∃ x,R E v x∧∀ w',Ext0 w w'→Calls X.P g vals w' (fun e w''=>e=.returned x∧w''=w')
def YlAt (P:Program) (s:Sem Next) (x:Value) (w:World):Prop :=
  ∀ w',Ext0 w w'→s.run P w'=.ok (.value x) w'∨∃ g args,s.run P w'=.ok (.enter g args) w'∧Calls P g args w' (fun e w''=>e=.returned x∧w''=w')
theorem Yl.at (P:Program) {s:Sem Next} {x:Value} (h:Yl P s x) (w:World):YlAt P s x w:=by
  intro w' _
  rcases h with h | ⟨g,args,h1,h2⟩
  · exact .inl (h w')
  · exact .inr ⟨g,args,h1 w',h2 w'⟩
theorem readOp_ok (hT:TabOk X) (hR:RkOk X) (g:G X own0 w0 E st w) (f:FOk E tm a) {o:Oper} {v:SV} (e:readOp X.T tm st o.op=some v):∃ x,R E v x∧YlAt X.P (execOp a.eval o) x w:=by
  obtain ⟨dst,op,type,pos,after,guard⟩:=o
  cases op <;> simp only [readOp] at e <;> try cases e
  case load t x =>
    obtain ⟨z,hz,hrun⟩:=loadS_ok hT g e (f.eval x)
    exact ⟨z,hz,fun w' hw=>.inl (by simpa [execOp] using v_run (hrun w' hw))⟩
  case call c =>
    obtain ⟨callee,args,ats⟩:=c
    cases callee <;> simp only at e <;> try cases e
    rename_i fo
    cases fo <;> simp only at e <;> try cases e
    rename_i gg
    cases hpk:X.T.rkB gg with
    | false=>simp only [hpk,cond_false] at e; cases e
    | true =>
      simp only [hpk,cond_true,fL_eq] at e
      obtain ⟨fn,hfn⟩:=hR.fn gg hpk
      obtain ⟨x,hx,hcall⟩:=hR.ok gg _ st v hpk e own0 w0 E w g (args.map a.eval) (by simpa using f.evalL args.toList)
      refine ⟨x,hx,fun w' hw=>.inr ⟨gg,args.map a.eval,?_,hcall w' hw⟩⟩
      have:=callv_run hT hfn a.eval (.func gg) args ats type #[] #[] rfl w'
      simpa [execOp] using this
def Post (X:Px) (own0:Nat→Prop) (w0:World) (E:Env) (l:List Sx) (K:Act→World→Prop):Prop :=
  ∀ s∈l,∀ E' a' w',E.le E'→G X own0 w0 E' s.2 w'→FOk E' s.1 a'→K a' w'
theorem oneM_eq (dst:Option Nat) (tm:TT) (v:SV) (st:St):oneM dst tm v st=some [(putD tm dst v,st)]:=by
  obtain ⟨h,t,s,n,f⟩:=st
  simp only [oneM,fV_eq,putK_eq,fH1_eq,fN_eq]
theorem one_eq (dst:Option Nat) (tm:TT) (v:SV) (st:St):one dst tm v st=some [(putD tm dst v,st)]:=by
  simp only [one,fV_eq,putK_eq,fSt_eq,fStM_eq,fStT_eq]
theorem one0_eq (dst:Option Nat) (tm:TT) (v:SV) (st:St):one0 dst tm v st=some [(putD tm dst v,st)]:=by
  simp only [one0,fV_eq,putK_eq]
theorem outs_mem {dst:Option Nat} {tm:TT}:∀ {l:Out} {o:SV×St},o∈l→(putD tm dst o.1,o.2)∈outs dst tm l
  | (v,st)::l,o,h=>by
    simp only [outs,fV_eq,putK_eq,fSt_eq,fStM_eq,fStT_eq]
    rcases List.mem_cons.1 h with rfl | h
    · exact List.mem_cons_self
    · exact List.mem_cons_of_mem _ (outs_mem h)
theorem wp_value {P:Program} {o:Oper} {K:Act→World→Prop} {Q:Exit→Act→World→Prop} {w w':World} {x:Value} (h:(execOp a.eval o).run P w=.ok (.value x) w') (hk:K (a.put o.dst x) w'):o.wp P a w K Q:=by
  unfold Oper.wp; rw [h]; exact hk
theorem wp_skip' {P:Program} {o:Oper} {K:Act→World→Prop} {Q:Exit→Act→World→Prop} {w w':World} (h:(execOp a.eval o).run P w=.ok .skip w') (hk:K (a.put o.dst undef) w'):o.wp P a w K Q:=by
  unfold Oper.wp; rw [h]; exact hk
theorem wp_enter {P:Program} {o:Oper} {K:Act→World→Prop} {Q:Exit→Act→World→Prop} {w w':World} {g:FuncId} {args:Array Value} (h:(execOp a.eval o).run P w=.ok (.enter g args) w')
    {R':Ending→World→Prop} (hc:Calls P g args w' R') (hk:∀ e w'',R' e w''→∃ x,e=.returned x∧K (a.put o.dst x) w''):o.wp P a w K Q:=by
  unfold Oper.wp; rw [h]
  refine hc.mono fun e w'' hr=>?_
  obtain ⟨x,rfl,hx⟩:=hk e w'' hr
  exact hx
theorem ylAt_wp {P:Program} {o:Oper} {K:Act→World→Prop} {Q:Exit→Act→World→Prop} {x:Value} (h:YlAt P (execOp a.eval o) x w) (hk:K (a.put o.dst x) w):o.wp P a w K Q:=by
  rcases h w (Ext0.refl w) with h | ⟨g,args,h1,h2⟩
  · exact wp_value h hk
  · exact wp_enter h1 h2 fun e w'' hh=>⟨x,hh.1,by rw [hh.2]; exact hk⟩
theorem RL_two {s x:SV} {vs:List Value} (h:RL E [s,x] vs):∃ u1 u2,vs=[u1,u2]∧R E s u1∧R E x u2:=by
  simp only [RL] at h
  obtain ⟨v,vs',rfl,h1,v2,vs2,rfl,h2,rfl⟩:=h
  exact ⟨v,v2,rfl,h1,h2⟩
theorem inv_run (hT:TabOk X) {t g:Nat} {nm:String} {fn:Func} {v x:Value} {w:World} (hm:(method (X.P.types.size+Made.depth) t v nm).run X.P w=.ok (g,x) w) (hfn:X.T.fn.get g=some fn) (ρ:Operand→Value) {r:Operand} (args:Array Operand) (ats:Array TypeId) (ty:TypeId)
    (hr:ρ r=.iface t v):(do let d←resolve ρ ⟨.invoke r nm,args,ats⟩ ty; invoke d.target d.args:Sem Next).run X.P w=.ok (.enter g (#[x]++args.map ρ)) w:=by
  have hext:((#[Value.iface t v]++args.map ρ).extract 1 (#[Value.iface t v]++args.map ρ).size)=args.map ρ:=by
    apply Array.ext'
    simp only [Array.toList_extract,Array.toList_append,Array.toList_map,List.extract_eq_take_drop,List.cons_append,List.nil_append,Array.size_append,Array.size_map,List.size_toArray,List.length_cons,List.length_nil,List.drop_succ_cons,List.drop_zero]
    apply List.take_of_length_le
    simp
  have h0:(#[Value.iface t v]++args.map ρ)[0]?=some (.iface t v):=by
    rw [Array.getElem?_append_left (by simp)]
    rfl
  simp only [resolve,hr,Sem.run_bind,Sem.run_pure,Result.andThen_ok,invoke]
  simp only [h0,hext,callMethod,Sem.run_bind,run_program,Result.andThen_ok,hm]
  exact call_run hT hfn _ w
theorem intKey_ok (hT:TabOk X) {t:Nat} (h:intKey X.T t=true):∃ k e,X.P.underlying t=some (.map k e)∧X.P.underlying k=some (.int .i64):=hT.ik t h
theorem keyN_ok {v:SV} {u:Value} {n:Int} (h:keyN v=some n) (hr:R E v u):u=.int .i64 n:=by
  unfold keyN at h
  split at h
  · rename_i a b
    simp only [cond_eq_ite,decide_eq_true_eq] at h
    split at h
    · rename_i hab
      cases h
      subst hab
      simp only [R,SIok] at hr
      obtain ⟨z,hz,rfl⟩:=hr
      congr 1
      omega
    · cases h
  · cases h
theorem lkM_none:∀ {es:List (Int×SV)} {ms:List MapEntry} {n:Int},lkM es n=none→RM E es ms→∀ i,Instr.findNow (.int .i64) (.int .i64 n) ms i=some none
  | [],ms,n,h,r,i=>by simp only [RM] at r; subst r; simp [Instr.findNow]
  | (k,v)::l,ms,n,h,r,i=>by
    simp only [RM] at r
    obtain ⟨m,ms',rfl,h1,h2,h3⟩:=r
    simp only [lkM,cond_eq_ite,decide_eq_true_eq] at h
    split at h
    · cases h
    · rename_i hne
      have:(n == k)=false:=by simp; exact fun hh=>hne hh.symm
      simp [Instr.findNow,h1,Instr.sameNow,this]
      exact lkM_none h h3 (i+1)
theorem lkM_some:∀ {es:List (Int×SV)} {ms:List MapEntry} {n:Int} {v:SV},lkM es n=some v→RM E es ms→∀ i,∃ j x,Instr.findNow (.int .i64) (.int .i64 n) ms i=some (some (j,x))∧R E v x
  | [],ms,n,v,h,r,i=>by simp [lkM] at h
  | (k,v')::l,ms,n,v,h,r,i=>by
    simp only [RM] at r
    obtain ⟨m,ms',rfl,h1,h2,h3⟩:=r
    simp only [lkM,cond_eq_ite,decide_eq_true_eq] at h
    split at h
    · rename_i he
      cases h
      subst he
      exact ⟨i,m.val,by simp [Instr.findNow,h1,Instr.sameNow],h2⟩
    · rename_i hne
      have:(n == k)=false:=by simp; exact fun hh=>hne hh.symm
      obtain ⟨j,x,q1,q2⟩:=lkM_some h h3 (i+1)
      exact ⟨j,x,by simp [Instr.findNow,h1,Instr.sameNow,this]; exact q1,q2⟩
theorem RM_push:∀ {es:List (Int×SV)} {ms:List MapEntry} {n:Int} {v:SV} {x:Value} {c:Nat},RM E es ms→R E v x→RM E (es++[(n,v)]) (ms++[{ key:=.int .i64 n,val:=x,born:=c }])
  | [],ms,n,v,x,c,r,h=>by
    simp only [RM] at r
    subst r
    exact ⟨_,_,rfl,rfl,h,rfl⟩
  | (k,v')::l,ms,n,v,x,c,r,h=>by
    simp only [RM] at r
    obtain ⟨m,ms',rfl,h1,h2,h3⟩:=r
    exact ⟨m,_,rfl,h1,h2,RM_push h3 h⟩
theorem checkKey_int {P:Program} {k:Nat} (h:P.underlying k=some (.int .i64)) (b:Bool) (n:Int) (w:World):(Instr.checkKey b 10000 k (.int .i64 n)).run P w=.ok () w:=by
  have:Instr.checkKey b 10000 k (.int .i64 n)=Instr.checkKey b (9999+1) k (.int .i64 n):=rfl
  rw [this,Instr.checkKey,Sem.run_bind,und_run h]
  rfl
theorem getObj_run {P:Program} {w:World} {r:Nat} {ms:Array MapEntry} {c:Nat} (hb:w.heap[r]?=some (.map ms c)):(getObj r).run P w=.ok (.map ms c) w:=by
  simp [getObj,Sem.run,hb]
theorem setObj_run {P:Program} {w:World} {r:Nat} {ms:Array MapEntry} {c:Nat} (o:Obj) (hb:w.heap[r]?=some (.map ms c)):(setObj r o).run P w=.ok () { w with heap:=w.heap.setIfInBounds r o }:=by
  simp [setObj,Sem.run,hb]
theorem opStep_wp (hT : TabOk X) (hP:PkOk X) (hR:RkOk X) {call:Nat→List SV→St→Option Out} (hC:CallOk X own0 w0 call) (g:G X own0 w0 E st w) (f:FOk E tm a) {o:Oper} {l:List Sx}
    (e:opStep X.T call tm st o=some l) {K:Act→World→Prop} {Q:Exit→Act→World→Prop} (hK:Post X own0 w0 E l K):o.wp X.P a w K Q:=by
  unfold opStep at e
  have done:∀ {v:SV} {x:Value} {w':World} {E':Env} {st':St},l=[(putD tm o.dst v,st')]→E.le E'→R E' v x→G X own0 w0 E' st' w'→K (a.put o.dst x) w':=by
    intro v x w' E' st' hl hle hv hg
    subst hl
    exact hK (putD tm o.dst v,st') (by simp) E' _ w' hle hg ((f.mono hle).put o.dst hv)
  have named:∀ {v:SV} {x:Value},YlAt X.P (execOp a.eval o) x w→R E v x→readPut X.T o.dst tm v st=some l→o.wp X.P a w K Q:=by
    intro v x hy hx e
    unfold readPut at e
    split at e
    · rename_i k lo hi hb
      cases hn:X.T.nameB with
      | false=>rw [hn] at hb; cases hb
      | true =>
        rw [hn] at hb
        simp only [cond_true] at hb
        unfold wideI at hb
        split at hb
        · rename_i k' lo' hi'
          simp only [cond_eq_ite] at hb
          split at hb
          · cases hb
          · cases hb
            simp only [one_eq,Option.some.injEq] at e
            simp only [R,SIok] at hx
            obtain ⟨z,hz,rfl⟩:=hx
            have hle:=Env.le_upd (x:=EV.z z) g.nid_none
            have g1:=g.mono hle (fun id hid=>Env.upd_ne _ _ (by omega)) (Nat.le_succ _) (dom_upd g _)
            refine ylAt_wp hy (done e.symm hle (by simp only [R,SIok]; exact ⟨z,Env.upd_self _ _ _,rfl⟩) ?_)
            refine ⟨g1.size,g1.os,g1.tape,g1.output,g1.frame,g1.heap,g1.inj,fun id lo' hi' hl=>?_,fun id i hl=>?_,g1.dom,g1.gl,g1.facts⟩
            · simp only [lk_cons] at hl
              split at hl
              · rename_i he
                subst he
                cases hl
                exact ⟨z,Env.upd_self _ _ _,hz.1,hz.2⟩
              · exact g1.tab id lo' hi' hl
            · have:=g1.sls id i hl
              cases i <;> exact this
        · cases hb
    · simp only [one0_eq,Option.some.injEq] at e
      exact ylAt_wp hy (done e.symm (Env.le_refl E) hx g)
  cases hp:pureOp X.T tm st o.op with
  | some v =>
    simp only [hp,cond_eq_ite] at e
    obtain ⟨x,hx,hy⟩:=pureOp_ok hT hP g f hp
    split at e
    · exact named (hy.at _ w) hx e
    · simp only [one0_eq,Option.some.injEq] at e
      exact ylAt_wp (hy.at _ w) (done e.symm (Env.le_refl E) hx g)
  | none =>
    simp only [hp] at e
    cases hn:nameOp X.T tm st o.op with
    | some q =>
      obtain ⟨v,st'⟩:=q
      simp only [hn,one_eq,oneM_eq,Option.some.injEq] at e
      obtain ⟨x,E',hle,hx,hy,hg⟩:=nameOp_ok hT g f hn
      exact ylAt_wp (hy.at _ w) (done e.symm hle hx (hg w g))
    | none =>
      simp only [hn] at e
      cases hr:readOp X.T tm st o.op with
      | some v =>
        obtain ⟨x,hx,hy⟩:=readOp_ok hT hR g f hr
        simp only [hr] at e
        exact named hy hx e
      | none =>
        simp only [hr] at e
        clear hp hn hr
        obtain ⟨dst,op,type,pos,after,guard⟩:=o
        cases op <;> simp only [memOp] at e <;> try cases e
        case makeMap t r =>
          cases r <;> simp only [mapOp] at e <;> try cases e
          simp only [one_eq,oneM_eq,Option.some.injEq] at e
          have hle:=Env.le_upd (x:=EV.blk w.heap.size) g.nid_none
          refine wp_value (x:=.map (some w.heap.size)) (w':=w.alloc (.map #[] 0)) (by simp [execOp,Instr.makeMap]) ?_
          exact done e.symm hle (by simp only [R]; exact ⟨_,Env.upd_self _ _ _,rfl⟩) (g.newK (nb:=.map []) ⟨#[],0,heap_alloc_new w _,rfl⟩)
        case insert t m k x =>
          simp only [mapOp,cond_eq_ite] at e
          split at e
          · rename_i hik
            obtain ⟨kt,et,hu,huk⟩:=intKey_ok hT hik
            have hm:=f.eval m
            cases hmv:rho tm m <;> rw [hmv] at hm <;> simp only [hmv] at e <;> try cases e
            rename_i b
            cases hkn:keyN (rho tm k) with
            | none=>simp only [hkn] at e; cases e
            | some n =>
              have hkv:=keyN_ok hkn (f.eval k)
              simp only [hkn] at e
              simp only [R] at hm
              obtain ⟨nb,hnb,hmval⟩:=hm
              cases hl:lk st.heap b with
              | none=>simp only [hl] at e; cases e
              | some blk =>
                cases blk <;> simp only [hl] at e <;> try cases e
                rename_i es
                cases hlm:lkM es n with
                | some v=>simp only [hlm] at e; cases e
                | none =>
                  simp only [hlm,one_eq,oneM_eq,Option.some.injEq] at e
                  rcases g.heap b _ hl with ⟨h0,_⟩ | ⟨n',hn',h2,h3,ms,c,h4,h5⟩
                  · cases h0
                  rw [hnb] at hn'
                  cases hn'
                  have hfn:=lkM_none hlm h5 0
                  have hrun:(Instr.mapUpdate t (a.eval m) (a.eval k) (a.eval x)).run X.P w=.ok () { w with heap:=w.heap.setIfInBounds nb (.map (ms.push { key:=.int .i64 n,val:=a.eval x,born:=c }) (c+1)) }:=by
                    simp [Instr.mapUpdate,und_run hu,hmval,hkv,getObj_run h4,checkKey_int huk,Instr.findKey,und_run huk,hfn,setObj_run _ h4]
                  refine wp_skip' (w':=_) (by simpa [execOp] using u_run hrun) ?_
                  refine done e.symm (Env.le_refl E) (v:=.u) trivial (g.setO hl rfl hnb (fun j hj=>?_) (by simp) rfl rfl rfl ⟨ms.push { key:=.int .i64 n,val:=a.eval x,born:=c },c+1,?_,?_⟩)
                  · simp [Array.getElem?_setIfInBounds,Ne.symm hj]
                  · simp [Array.getElem?_setIfInBounds,h2]
                  · simpa using RM_push h5 (f.eval x)
          · cases e
        case lookup t m k ok =>
          simp only [mapOp,cond_eq_ite] at e
          split at e
          · rename_i hik
            obtain ⟨kt,et,hu,huk⟩:=intKey_ok hT hik
            have hm:=f.eval m
            cases hmv:rho tm m <;> rw [hmv] at hm <;> simp only [hmv] at e <;> try cases e
            rename_i b
            cases hkn:keyN (rho tm k) with
            | none=>simp only [hkn] at e; cases e
            | some n =>
              have hkv:=keyN_ok hkn (f.eval k)
              simp only [hkn] at e
              simp only [R] at hm
              obtain ⟨nb,hnb,hmval⟩:=hm
              cases hl:lk st.heap b with
              | none=>simp only [hl] at e; cases e
              | some blk =>
                cases blk <;> simp only [hl] at e <;> try cases e
                rename_i es
                cases hlm:lkM es n with
                | none=>simp only [hlm] at e; cases e
                | some v =>
                  simp only [hlm,one0_eq,Option.some.injEq] at e
                  rcases g.heap b _ hl with ⟨h0,_⟩ | ⟨n',hn',h2,h3,ms,c,h4,h5⟩
                  · cases h0
                  rw [hnb] at hn'
                  cases hn'
                  obtain ⟨j,x,hfn,hx⟩:=lkM_some hlm h5 0
                  have hrun:(Instr.lookup t (a.eval m) (a.eval k) ok).run X.P w=.ok (if ok then .tuple #[x,.bool true] else x) w:=by
                    simp [Instr.lookup,und_run hu,hmval,hkv,getObj_run h4,checkKey_int huk,Instr.findKey,und_run huk,hfn]
                  refine wp_value (x:=if ok then .tuple #[x,.bool true] else x) (w':=w) (by simpa [execOp] using v_run2 hrun) ?_
                  refine done e.symm (Env.le_refl E) ?_ g
                  cases ok with
                  | true=>simp only [if_true,R]; exact ⟨_,rfl,_,_,rfl,hx,_,_,rfl,by simp only [R],rfl⟩
                  | false=>exact hx
          · cases e
        case alloc t =>
          cases hty:X.T.ty.get t with
          | none=>simp only [hty] at e; cases e
          | some y =>
            simp only [hty,one_eq,oneM_eq,Option.some.injEq] at e
            obtain ⟨d2,i2,hd2,hi2,hs2,hb2,hu2,ha2,hl2,z,hz,hzr⟩:=hT.ty t y hty
            have hle:=Env.le_upd (x:=EV.blk w.heap.size) g.nid_none
            refine wp_value (x:=.pointer (some ⟨w.heap.size,0,none⟩)) (w':=w.alloc (.cells z.cells t)) (by simpa [execOp] using v_run2 (alloc_run hi2 hz w)) ?_
            exact done e.symm hle (by simp only [R]; exact ⟨_,Env.upd_self _ _ _,rfl⟩) (g.newB (hzr E))
        case box t x =>
          cases hty:X.T.ty.get t with
          | none=>simp only [hty] at e; cases e
          | some y =>
            simp only [hty,one_eq,oneM_eq,cond_eq_ite] at e
            split at e
            · rename_i hc
              simp only [Option.some.injEq] at e
              have hle:=Env.le_upd (x:=EV.blk w.heap.size) g.nid_none
              refine wp_value (x:=.pointer (some ⟨w.heap.size,0,none⟩)) (w':=w.alloc (.cells (a.eval x).cells t)) (by simpa [execOp] using v_run2 (box_run (P:=X.P) (v:=a.eval x) w)) ?_
              exact done e.symm hle (by simp only [R]; exact ⟨_,Env.upd_self _ _ _,rfl⟩) (g.newB (RL_cells (f.eval x) hc))
            · cases e
        case buildSlice t len ps =>
          cases hty:X.T.ty.get t with
          | none=>simp only [hty] at e; cases e
          | some ty =>
            simp only [hty] at e
            cases hund:ty.und <;> simp only [hund] at e <;> try cases e
            rename_i el
            cases hel:X.T.ty.get el with
            | none=>simp only [hel] at e; cases e
            | some y =>
              simp only [hel,cond_eq_ite,Bool.and_eq_true,Nat.ble_eq] at e
              split at e
              · rename_i hc
                cases hf:fillS (placeS X.T ty) (repL len y.zero) (rhoP tm ps.toList) with
                | none=>simp only [hf] at e; cases e
                | some cs =>
                  simp only [hf,one_eq,oneM_eq] at e
                  split at e
                  · simp only [Option.some.injEq] at e
                    have hle:=Env.le_upd (x:=EV.blk w.heap.size) g.nid_none
                    obtain ⟨w',hrun,hg⟩:=buildSlice_ok (len:=len) (pv:=ps.map fun p=>(p.1,a.eval p.2)) hT g hty hund hel (by simpa using evalP f ps.toList) hc.1 (Nat.le_of_ble_eq_true hc.2) hf
                    refine wp_value (x:=.slice (some ⟨w.heap.size,0,none⟩) len len) (w':=w') (by simpa [execOp] using v_run2 hrun) ?_
                    exact done e.symm hle (by simp only [R]; exact ⟨_,Env.upd_self _ _ _,rfl⟩) hg
                  · cases e
              · cases e
        case makeSlice t ln cp =>
          cases hty:X.T.ty.get t with
          | none=>simp only [hty] at e; cases e
          | some ty =>
            cases h1:cstN st (rho tm ln) with
            | none=>simp only [hty,h1] at e; cases e
            | some n =>
              cases h2:cstN st (rho tm cp) with
              | none=>simp only [hty,h1,h2] at e; cases e
              | some m =>
                simp only [hty,h1,h2] at e
                cases hund:ty.und <;> simp only [hund] at e <;> try cases e
                rename_i el
                cases hel:X.T.ty.get el with
                | none=>simp only [hel] at e; cases e
                | some y =>
                  simp only [hel,cond_eq_ite,Bool.and_eq_true,Nat.ble_eq,one_eq,oneM_eq] at e
                  split at e
                  · rename_i hc
                    simp only [Option.some.injEq] at e
                    have hnm:=nbeq hc.1
                    subst hnm
                    obtain ⟨k1,hk1⟩:=cstN_ok g h1 (f.eval ln)
                    obtain ⟨k2,hk2⟩:=cstN_ok g h2 (f.eval cp)
                    have hle:=Env.le_upd (x:=EV.blk w.heap.size) g.nid_none
                    obtain ⟨w',hrun,hg⟩:=makeSlice_ok (k:=k1) (j:=k2) hT g hty hund hel hc.2.1 hc.2.2.1 (Nat.le_of_ble_eq_true hc.2.2.2.1)
                    refine wp_value (x:=.slice (some ⟨w.heap.size,0,none⟩) n n) (w':=w') (by simpa [execOp,hk1,hk2] using v_run2 hrun) ?_
                    exact done e.symm hle (by simp only [R]; exact ⟨_,Env.upd_self _ _ _,rfl⟩) hg
                  · cases e
        case store t x v =>
          cases hs:storeS X.T st t (rho tm x) (rho tm v) with
          | none=>simp only [hs] at e; cases e
          | some st' =>
            simp only [hs,one_eq,oneM_eq,Option.some.injEq] at e
            obtain ⟨w',hrun,hg⟩:=storeS_ok hT g hs (f.eval x) (f.eval v)
            refine wp_skip' (w':=w') (by simpa [execOp] using u_run hrun) ?_
            exact done e.symm (Env.le_refl E) (v:=.u) trivial hg
        case call c =>
          obtain ⟨callee,args,ats⟩:=c
          cases callee <;> simp only at e <;> try cases e
          · rename_i fo
            have hf:=f.eval fo
            cases hr:rho tm fo <;> rw [hr] at hf <;> simp only [hr] at e <;> try cases e
            rename_i fn first cap
            cases fn <;> simp only at e <;> try cases e
            rename_i gg
            simp only [fL_eq] at e
            cases hcl:call gg (first++rhoL tm args.toList++cap) st with
            | none=>simp only [hcl] at e; cases e
            | some lo =>
              simp only [hcl,Option.some.injEq] at e
              subst e
              obtain ⟨⟨fn,hfn⟩,hcalls⟩:=hC gg _ st lo hcl
              simp only [R] at hf
              obtain ⟨fs,cs,hf,hfs,hcs⟩:=hf
              have hrun:=callv_run hT hfn a.eval fo args ats type fs cs hf w
              refine wp_enter (by simpa [execOp] using hrun) (hcalls E w _ g (by
                have h9:=RL_append (RL_append hfs (f.evalL args.toList)) hcs
                simpa using h9)) ?_
              rintro en w'' ⟨o,ho,E',x,hle,rfl,hx,hg⟩
              exact ⟨x,rfl,hK _ (outs_mem ho) E' _ w'' hle hg ((f.mono hle).put dst hx)⟩
          · rename_i r nm
            have hf:=f.eval r
            have fin:∀ {t gg:Nat} {u x:Value} {sx:SV} {lo:Out},a.eval r=.iface t u→(method (X.P.types.size+Made.depth) t u nm).run X.P w=.ok (gg,x) w→R E sx x→call gg (sx::rhoL tm args.toList) st=some lo→outs dst tm lo=l →
                Oper.wp X.P ⟨dst,.call ⟨.invoke r nm,args,ats⟩,type,pos,after,guard⟩ a w K Q:=by
              intro t gg u x sx lo hr hm hx hcl hl
              subst hl
              obtain ⟨⟨fn,hfn⟩,hcalls⟩:=hC gg _ st lo hcl
              have hrun:=inv_run hT hm hfn a.eval args ats type hr
              refine wp_enter (by simpa [execOp] using hrun) (hcalls E w _ g (by
                have h9:=f.evalL args.toList
                simp only [Array.toList_append,Array.toList_map,List.cons_append,List.nil_append,RL]
                exact ⟨_,_,rfl,hx,h9⟩)) ?_
              rintro en w'' ⟨o,ho,E',x,hle,rfl,hx,hg⟩
              exact ⟨x,rfl,hK _ (outs_mem ho) E' _ w'' hle hg ((f.mono hle).put dst hx)⟩
            cases hr:rho tm r <;> rw [hr] at hf <;> simp only [hr] at e <;> try cases e
            rename_i t v
            simp only [R] at hf
            obtain ⟨u,hu,hv⟩:=hf
            cases hi:X.T.inv t nm with
            | none=>simp only [hi] at e; cases e
            | some q =>
              obtain ⟨gg,le⟩:=q
              cases le with
              | none =>
                simp only [hi,fL_eq] at e
                cases hcl:call gg (v::rhoL tm args.toList) st with
                | none=>simp only [hcl] at e; cases e
                | some lo =>
                  simp only [hcl,Option.some.injEq] at e
                  exact fin hu (hT.inv t nm gg hi u w) hv hcl e
              | some et =>
                simp only [hi] at e
                cases hld:loadS X.T st et v with
                | none=>simp only [hld] at e; cases e
                | some x =>
                  simp only [hld,fL_eq] at e
                  cases hcl:call gg (x::rhoL tm args.toList) st with
                  | none=>simp only [hcl] at e; cases e
                  | some lo =>
                    simp only [hcl,Option.some.injEq] at e
                    obtain ⟨z,hz,hrun⟩:=loadS_ok hT g hld hv
                    exact fin hu (hT.invl t nm gg et hi u z w (hrun w (Ext0.refl w))) hz hcl e
          · rename_i b
            cases hb:builtS X.T st b ats.toList (rhoL tm args.toList) with
            | none=>simp only [hb] at e; cases e
            | some q =>
              obtain ⟨v,st'⟩:=q
              simp only [hb,one_eq,oneM_eq,Option.some.injEq] at e
              have hrl:=f.evalL args.toList
              unfold builtS at hb
              split at hb
              · rename_i t t' s x hats hargs
                rw [hargs] at hrl
                obtain ⟨u1,u2,hm,hs,hx⟩:=RL_two hrl
                cases htt:Nat.beq t t' with
                | false=>simp only [htt,cond_false] at hb; cases hb
                | true =>
                  have:=nbeq htt
                  subst this
                  simp only [htt,cond_true] at hb
                  have happ:∃ y w' E',(Builtin.append_ #[t,t] type #[u1,u2]).run X.P w=.ok y w'∧E.le E'∧R E' v y∧G X own0 w0 E' st' w':=by
                    split at hb
                    · rename_i r hr
                      cases hb
                      obtain ⟨y,h1,h2⟩:=append0_ok (ty0:=type) hT g hr hs hx
                      exact ⟨y,w,E,h1,Env.le_refl E,h2,g⟩
                    split at hb
                    · rename_i r hr
                      cases hb
                      exact appendO_ok (ty0:=type) hT hR.app g hr hs hx
                    · exact appendS_ok (ty0:=type) hT g hb hs hx
                  obtain ⟨y,w',E',hrun,hle,hR,hG⟩:=happ
                  have hA:args.map a.eval=#[u1,u2]:=by apply Array.ext'; simpa using hm
                  have hats':ats=#[t,t]:=by apply Array.ext'; exact hats
                  refine wp_value (x:=y) (w':=w') ?_ (done e.symm hle hR hG)
                  simp [execOp,resolve,invoke,builtin,hA,hats',hrun]
              · rename_i t rest d x hats hargs
                rw [hargs] at hrl
                obtain ⟨u1,u2,hm,hs,hx⟩:=RL_two hrl
                obtain ⟨y,w',hrun,hR,hG⟩:=copyS_ok (ty0:=type) (ats:=rest) hT g hb hs hx
                have hA:args.map a.eval=#[u1,u2]:=by apply Array.ext'; simpa using hm
                have hats':ats=(t::rest).toArray:=by apply Array.ext'; simpa using hats
                refine wp_value (x:=y) (w':=w') ?_ (done e.symm (Env.le_refl E) hR hG)
                simp only [execOp,resolve,invoke,builtin,hA,hats',Sem.run_bind,Sem.run_pure,Result.andThen_ok,hrun]
              · cases hb
end SE
end
section
namespace SE
variable {X:Px} {own0:Nat→Prop} {w0 w:World} {E:Env} {st:St} {tm:TT} {a:Act}
theorem refine_ok {c:Cmp} {lo hi n z:Int} (h1:lo≤z) (h2:z≤hi) (h:cmpZ c z n=true):(SE.refine c lo hi n).1≤z∧z≤(SE.refine c lo hi n).2:=by
  cases c <;> simp only [cmpZ,decide_eq_true_eq] at h <;> simp only [SE.refine,cond_eq_ite,decide_eq_true_eq]
  · have:=le_mx lo n; have:=mn_le hi n; omega
  · constructor <;> split <;> omega
  · have:=mn_le hi (n - 1); omega
  · have:=mn_le hi n; omega
  · have:=le_mx lo (n+1); omega
  · have:=le_mx lo n; omega
theorem G.setTab (g:G X own0 w0 E st w) {id:Nat} {l h z:Int} (hE:E id=some (.z z)) (h1:l≤z) (h2:z≤h):G X own0 w0 E { st with tab:=upd st.tab id (l,h) } w:=by
  refine ⟨g.size,g.os,g.tape,g.output,g.frame,g.heap,g.inj,?_,?_,g.dom,g.gl,g.facts⟩
  · intro id' lo hi hl
    simp only [lk_upd] at hl
    split at hl
    · rename_i he
      subst he
      cases hl
      exact ⟨z,hE,h1,h2⟩
    · exact g.tab id' lo hi hl
  · intro id' i hl
    have:=g.sls id' i hl
    cases i <;> exact this
theorem assumeS_ok (g:G X own0 w0 E st w) {v:SV} {b:Bool} (h:R E v (.bool b)):∃ st',assumeS st v b=some st'∧G X own0 w0 E st' w:=by
  cases v <;> simp only [assumeS]
  case tt=>simp only [R] at h; cases h; exact ⟨st,rfl,g⟩
  case ff=>simp only [R] at h; cases h; exact ⟨st,rfl,g⟩
  case cmp c id n =>
    simp only [R] at h
    obtain ⟨z,hz,hb⟩:=h
    cases hl:lk st.tab id with
    | none=>exact ⟨st,rfl,g⟩
    | some p =>
      obtain ⟨lo,hi⟩:=p
      obtain ⟨z',hz',b1,b2⟩:=g.tab id lo hi hl
      rw [hz] at hz'
      cases hz'
      have hc:cmpZ (bif b then c else c.neg) z n=true:=by
        cases b with
        | true=>simp only [cond_true]; cases hb':cmpZ c z n with
          | true=>rfl
          | false=>rw [hb'] at hb; cases hb
        | false=>simp only [cond_false,cmpZ_neg]; cases hb':cmpZ c z n with
          | true=>rw [hb'] at hb; cases hb
          | false=>rfl
      have hr:=refine_ok b1 b2 hc
      simp only []
      obtain ⟨l,h,hlh⟩:∃ l h,SE.refine (bif b then c else c.neg) lo hi n=(l,h):=⟨_,_,rfl⟩
      rw [hlh] at hr
      simp only [hlh]
      have hle:l≤h:=by have h1:=hr.1; have h2:=hr.2; simp only at h1 h2; omega
      simp only [hle,decide_true,cond_true]
      exact ⟨_,rfl,g.setTab hz hr.1 hr.2⟩
  all_goals exact ⟨st,rfl,g⟩
theorem assumeL_ok (g:G X own0 w0 E st w) {v:SV} {b:Bool} (h:R E v (.bool b)):∃ st'∈assumeL st v b,G X own0 w0 E st' w:=by
  have base:∃ st'∈toL (assumeS st v b),G X own0 w0 E st' w:=by
    obtain ⟨st',h1,h2⟩:=assumeS_ok g h
    exact ⟨st',by rw [h1]; simp [toL],h2⟩
  cases v <;> simp only [assumeL] <;> try exact base
  rename_i c id n
  simp only [R] at h
  obtain ⟨z,hz,hb⟩:=h
  cases hc:(bif b then c else c.neg) <;> simp only [] <;> try exact base
  cases hl:lk st.tab id with
  | none=>exact base
  | some p =>
    obtain ⟨lo,hi⟩:=p
    simp only []
    cases hd:(decide (lo<n)&&(decide (n<hi)&&decide (hi - lo≤40))) with
    | false=>exact base
    | true =>
      simp only [cond_true]
      obtain ⟨z',hz',b1,b2⟩:=g.tab id lo hi hl
      rw [hz] at hz'
      cases hz'
      have hne:cmpZ .ne z n=true:=by
        rw [← hc]
        cases b with
        | true=>simp only [cond_true]; cases hb':cmpZ c z n with
          | true=>rfl
          | false=>rw [hb'] at hb; cases hb
        | false=>simp only [cond_false,cmpZ_neg]; cases hb':cmpZ c z n with
          | true=>rw [hb'] at hb; cases hb
          | false=>rfl
      simp only [cmpZ,decide_eq_true_eq] at hne
      by_cases hlt:z<n
      · exact ⟨_,List.mem_cons_self,g.setTab hz b1 (by omega)⟩
      · exact ⟨_,List.mem_cons_of_mem _ List.mem_cons_self,g.setTab hz (by omega) b2⟩
theorem bool_slot {ops:Array Oper} {j t:Nat} {oj:Oper} {tmps:Array Value} {b:Bool} (hj:nth ops.toList j=some oj) (hd:oj.dst=some t) (h:tmps.getD t undef=.bool b):yielded ops tmps j=some b:=by
  have hn:∀ (l:List Oper) (j:Nat),nth l j=l[j]?:=by
    intro l
    induction l with
    | nil=>intro j; simp [nth]
    | cons x l ih =>
      intro j
      cases j with
      | zero=>simp [nth]
      | succ j=>simp [nth,ih]
  have h1:ops[j]?=some oj:=by rw [hn] at hj; simpa using hj
  have h2:tmps[t]?=some (.bool b):=by
    cases hq:tmps[t]? with
    | none=>simp [hq] at h; cases h
    | some v=>simp [hq] at h; rw [h]
  simp [yielded,h1,hd,h2]
theorem R_undef (E:Env):R E (.tup []) undef:=by
  simp only [R]
  exact ⟨#[],rfl,by simp [RL]⟩
theorem undef_slot {ops:Array Oper} {j t:Nat} {oj:Oper} {tmps:Array Value} (hj:nth ops.toList j=some oj) (hd:oj.dst=some t) (h:tmps.getD t undef=.tuple #[]):∀ b,yielded ops tmps j≠some b:=by
  have hn:∀ (l:List Oper) (j:Nat),nth l j=l[j]?:=by
    intro l
    induction l with
    | nil=>intro j; simp [nth]
    | cons x l ih =>
      intro j
      cases j with
      | zero=>simp [nth]
      | succ j=>simp [nth,ih]
  have h1:ops[j]?=some oj:=by rw [hn] at hj; simpa using hj
  intro b
  cases hq:tmps[t]? with
  | none=>simp [yielded,h1,hd,hq]
  | some v=>simp [hq] at h; simp [yielded,h1,hd,hq,h]
theorem guardS_ok (g:G X own0 w0 E st w) (f:FOk E tm a) {ops:Array Oper} {o:Oper}:match guardS ops.toList tm st o with
    | .run=>Region.wanted o (yielded ops a.tmps)=true
    | .skip=>Region.wanted o (yielded ops a.tmps)=false
    | .fork t want=>∃ b,R E (tm.get t) (.bool b)∧a.tmps.getD t undef=.bool b∧Region.wanted o (yielded ops a.tmps)=(b == want)
    | .bad=>True:=by
  unfold guardS
  cases hg:o.guard with
  | none=>simp [Region.wanted,hg]
  | some q =>
    obtain ⟨j,want⟩:=q
    simp only []
    cases hj:nth ops.toList j with
    | none=>trivial
    | some oj =>
      simp only []
      cases hd:oj.dst with
      | none=>trivial
      | some t =>
        simp only []
        have hs:=f.slot t
        cases hb:evalB st (tm.get t) with
        | some b =>
          have hv:=evalB_ok g hb hs
          have hy:=bool_slot hj hd hv
          simp only []
          cases b <;> cases want <;> simp [Region.wanted,hg,hy]
        | none =>
          simp only []
          cases hi:isB (tm.get t) with
          | false =>
            simp only [cond_false]
            by_cases hq:tm.get t=.tup []
            · simp only [hq]
              rw [hq] at hs
              simp only [R] at hs
              obtain ⟨cs,hc,hl⟩:=hs
              have hce:cs=#[]:=by
                simp only [RL] at hl
                exact Array.ext' (by simpa using hl)
              subst hce
              have hy:=undef_slot hj hd hc
              cases hyy:yielded ops a.tmps j with
              | none=>simp [Region.wanted,hg,hyy]
              | some b=>exact absurd hyy (hy b)
            · have he:(match tm.get t with
                | .tup []=>Gd.skip
                | _=>Gd.bad)=Gd.bad:=by
                split
                · rename_i hh; exact absurd hh hq
                · rfl
              simp only [he]
          | true =>
            obtain ⟨b,hv⟩:=isB_ok hi hs
            have hy:=bool_slot hj hd hv
            simp only [cond_true]
            refine ⟨b,by rw [← hv]; exact hs,hv,?_⟩
            simp [Region.wanted,hg,hy]
theorem ofB_slot {v:Value} {b:Bool} (h:v=.bool b):R E (ofB b) v:=by rw [h]; exact ofB_ok b
theorem bindL_mem {α β:Type} {f:α→Option (List β)}:∀ {l:List α} {r:List β},bindL f l=some r→∀ x∈l,∃ m,f x=some m∧∀ y∈m,y∈r
  | [],r,e,x,hx=>by cases hx
  | y :: l,r,e,x,hx=>by
    simp only [bindL] at e
    cases h1:f y with
    | none=>simp only [h1] at e; cases e
    | some m =>
      cases h2:bindL f l with
      | none=>simp only [h1,h2] at e; cases e
      | some n =>
        simp only [h1,h2,appS_eq,Option.some.injEq] at e
        subst e
        rcases List.mem_cons.1 hx with rfl | hx
        · exact ⟨m,h1,fun z hz=>List.mem_append_left _ hz⟩
        · obtain ⟨m',h3,h4⟩:=bindL_mem h2 x hx
          exact ⟨m',h3,fun z hz=>List.mem_append_right _ (h4 z hz)⟩
theorem gStep_wp (hT:TabOk X) (hP:PkOk X) (hR:RkOk X) {call:Nat→List SV→St→Option Out} (hC:CallOk X own0 w0 call) (g:G X own0 w0 E st w) (f:FOk E tm a) {ops:Array Oper} {o:Oper} {l:List Sx}
    (e:gStep X.T call ops.toList tm st o=some l) {K:Act→World→Prop} {Q:Exit→Act→World→Prop} (hK:Post X own0 w0 E l K) :
    if Region.wanted o (yielded ops a.tmps) then o.wp X.P a w K Q else K (a.put o.dst undef) w:=by
  unfold gStep at e
  have hg:=guardS_ok g f (ops:=ops) (o:=o)
  cases hgd:guardS ops.toList tm st o with
  | run =>
    rw [hgd] at hg
    simp only [hgd] at e
    rw [if_pos hg]
    exact opStep_wp hT hP hR hC g f e hK
  | skip =>
    rw [hgd] at hg
    simp only [hgd,putK_eq,Option.some.injEq] at e
    simp only at hg
    rw [hg]
    subst e
    exact hK _ List.mem_cons_self E _ w (Env.le_refl E) g (f.put o.dst (v:=.tup []) (R_undef E))
  | bad=>simp only [hgd] at e; cases e
  | fork t want =>
    rw [hgd] at hg
    obtain ⟨b,hb,hv,hw⟩:=hg
    simp only [hgd,setK_eq,putK_eq,fSt_eq,fStM_eq,fStT_eq] at e
    rw [hw]
    obtain ⟨st',ha,g'⟩:=assumeL_ok g hb
    have f':FOk E (tm.set t (ofB b)) a:=f.refine t (ofB_slot hv)
    by_cases hbw:b=want
    · subst hbw
      cases h1:bindL (fun st'=>opStep X.T call (tm.set t (ofB b)) st' o) (assumeL st (tm.get t) b) with
      | none=>simp only [h1] at e; cases e
      | some l1 =>
        simp only [h1] at e
        obtain ⟨m,hm1,hm2⟩:=bindL_mem h1 st' ha
        simp only [beq_self_eq_true,if_true]
        refine opStep_wp hT hP hR hC g' f' hm1 fun s hs=>hK s ?_
        revert e
        split
        · intro e; cases e; exact List.mem_append_left _ (hm2 s hs)
        · intro e; cases e
    · have hbw':b=!want:=by cases b <;> cases want <;> simp at hbw ⊢
      have hbe:(b == want)=false:=by cases b <;> cases want <;> simp at hbw ⊢
      rw [hbe]
      simp only [Bool.false_eq_true,if_false]
      revert e
      split
      · rename_i l1 _
        split
        · rename_i l2 h2
          intro e
          cases e
          rw [← hbw'] at h2
          obtain ⟨m,hm1,hm2⟩:=bindL_mem h2 st' ha
          cases hm1
          exact hK _ (List.mem_append_right _ (hm2 _ List.mem_cons_self)) E _ w (Env.le_refl E) g' (f'.put o.dst (v:=.tup []) (R_undef E))
        · intro e; cases e
      · intro e; cases e
theorem Post.mono {l l':List Sx} {E':Env} {K:Act→World→Prop} (h:Post X own0 w0 E l K) (he:E.le E') (hl:∀ s∈l',s∈l):Post X own0 w0 E' l' K :=
  fun s hs E'' a' w' hle=>h s (hl s hs) E'' a' w' (Env.le_trans he hle)
theorem runOps_wp (hT:TabOk X) (hP:PkOk X) (hR:RkOk X) {call:Nat→List SV→St→Option Out} (hC:CallOk X own0 w0 call) {ops:Array Oper} {Q:Exit→Act→World→Prop} :
    ∀ {rest:List Oper} {E:Env} {s:Sx} {a:Act} {w:World} {l:List Sx},runOps X.T call ops.toList rest s=some l→G X own0 w0 E s.2 w→FOk E s.1 a→Post X own0 w0 E l (Q .normal)→wpList X.P ops Q rest a w
  | [],E,s,a,w,l,e,g,f,hQ=>by
    simp only [runOps] at e
    cases e
    exact hQ s List.mem_cons_self E a w (Env.le_refl E) g f
  | o :: rest,E,s,a,w,l,e,g,f,hQ=>by
    simp only [runOps] at e
    cases h1:gStep X.T call ops.toList s.1 s.2 o with
    | none=>simp only [h1] at e; cases e
    | some m =>
      simp only [h1] at e
      refine wpList_step fun K hK=>?_
      refine gStep_wp hT hP hR hC g f h1 fun s' hs' E' a' w' hle g' f'=>?_
      obtain ⟨r,hr,hr2⟩:=bindL_mem e s' hs'
      exact hK _ _ (runOps_wp hT hP hR hC hr g' f' (hQ.mono hle hr2))
end SE
end
section
namespace SE
def Grow {α:Type} (P:Program) (s:Sem α):Prop:=∀ w x w',s.run P w=.ok x w'→Ext0 w w'
section
variable {P:Program} {α β:Type}
theorem grow_pure (x:α):Grow P (pure x:Sem α):=fun w y w' h=>by
  simp only [Sem.run_pure,Result.ok.injEq] at h
  rw [← h.2]; exact Ext0.refl w
theorem grow_pure' (x:α):Grow P (Sem.pure x:Sem α):=grow_pure x
theorem grow_bind {x:Sem α} {f:α→Sem β} (h:Grow P x) (k:∀ v,Grow P (f v)):Grow P (x >>= f):=fun w y w' e=>by
  rw [Sem.run_bind] at e
  cases hx:x.run P w with
  | ok v w1=>rw [hx] at e; exact (h w v w1 hx).trans (k v w1 y w' e)
  | halt q w1=>rw [hx] at e; cases e
theorem grow_map {x:Sem α} {f:α→β} (h:Grow P x):Grow P (Functor.map f x):=fun w y w' e=>by
  rw [Sem.run_map] at e
  cases hx:x.run P w with
  | ok v w1=>rw [hx] at e; cases e; exact h w v _ hx
  | halt q w1=>rw [hx] at e; cases e
theorem grow_halt (h:Halt):Grow P (Sem.halt h:Sem α):=fun w y w' e=>by simp [Sem.run] at e
theorem grow_stuck (s:String):Grow P (stuck s:Sem α):=grow_halt _
theorem grow_unsup (s:Unsupported):Grow P (unsupported s:Sem α):=grow_halt _
theorem grow_panic (v:Value):Grow P (goPanic v:Sem α):=grow_halt _
theorem grow_load (a:Addr):Grow P (load a):=fun w y w' e=>by
  rw [run_load] at e
  cases hc:w.cell? a with
  | some v=>rw [hc] at e; cases e; exact Ext0.refl w
  | none =>
    rw [hc] at e
    simp only at e
    split at e
    · cases e; exact Ext0.refl w
    · cases e
theorem grow_newObj (o:Obj):Grow P (newObj o):=fun w y w' e=>by
  rw [run_newObj] at e
  cases e
  exact ext_alloc w o
theorem grow_shape (r:Nat):Grow P (shape r):=fun w y w' e=>by rw [run_shape] at e; cases e; exact Ext0.refl w
theorem grow_program:Grow P program:=fun w y w' e=>by rw [run_program] at e; cases e; exact Ext0.refl w
theorem grow_choose (q:Question):Grow P (choose q):=fun w y w' e=>by
  rw [run_choose] at e
  split at e
  · cases e; exact Ext0.refl w
  · cases e; exact ⟨Nat.le_refl _,fun _ _=>rfl⟩
theorem grow_getObj (r:Nat):Grow P (getObj r):=fun w y w' e=>by
  simp only [getObj,Sem.run] at e
  split at e
  · cases e
  · cases e; exact Ext0.refl w
  · cases e
theorem grow_ite {c:Prop} [Decidable c] {x y:Sem α} (h:Grow P x) (k:Grow P y):Grow P (if c then x else y):=by
  split
  · exact h
  · exact k
theorem grow_typeInfo (t:TypeId):Grow P (typeInfo t):=by
  unfold typeInfo
  refine grow_bind grow_program fun p=>?_
  split
  · exact grow_pure _
  · exact grow_stuck _
theorem grow_underlying (t:TypeId):Grow P (underlying t):=by
  unfold underlying
  refine grow_bind grow_program fun p=>?_
  split
  · exact grow_pure _
  · exact grow_stuck _
theorem grow_sizeOf (t:TypeId):Grow P (sizeOf t):=by
  unfold sizeOf
  exact grow_bind (grow_typeInfo t) fun i=>grow_pure _
theorem grow_zeroValue (t:TypeId):Grow P (zeroValue t):=by
  unfold zeroValue
  refine grow_bind (grow_typeInfo t) fun i=>?_
  split
  · exact grow_pure _
  · exact grow_unsup _
theorem grow_isAgg (t:TypeId):Grow P (isAgg t):=by
  unfold isAgg
  refine grow_bind (grow_underlying t) fun d=>?_
  split <;> exact grow_pure _
theorem grow_loadCells (a:Addr):∀ (n i:Nat) (acc:Array Value),Grow P (loadCellsFrom a i n acc)
  | 0,i,acc=>by unfold loadCellsFrom; exact grow_pure _
  | n+1,i,acc=>by
    unfold loadCellsFrom
    exact grow_bind (grow_load _) fun v=>grow_loadCells a n _ _
theorem grow_loadVar (t:TypeId) (a:Addr):Grow P (loadVar t a):=by
  unfold loadVar
  refine grow_bind (grow_isAgg t) fun b=>?_
  split
  · refine grow_bind (grow_sizeOf t) fun n=>grow_bind (grow_loadCells _ _ _ _) fun c=>grow_pure _
  · exact grow_load a
theorem grow_sureAddr (v:Value):Grow P (Instr.sureAddr v):=by
  unfold Instr.sureAddr
  split
  · exact grow_pure _
  · exact grow_stuck _
theorem grow_part (t:TypeId) (cs:Array Value) (off:Nat):Grow P (part t cs off):=by
  unfold part
  refine grow_bind (grow_isAgg t) fun b=>?_
  split
  · exact grow_bind (grow_sizeOf t) fun n=>grow_pure _
  · split
    · exact grow_pure _
    · exact grow_stuck _
theorem grow_newRow (t:TypeId) (c:Array Value):Grow P (newRow t c):=by
  unfold newRow
  exact grow_bind (grow_newObj _) fun n=>grow_pure _
theorem grow_newVar (t:TypeId) (v:Value):Grow P (newVar t v):=grow_newRow _ _
theorem grow_elemOf (t:TypeId):Grow P (elemOf t):=by
  unfold elemOf
  refine grow_bind (grow_underlying t) fun d=>?_
  split
  · exact grow_pure _
  · exact grow_stuck _
theorem grow_rp (e:RuntimeError):Grow P (runtimePanic e:Sem α):=by
  unfold runtimePanic
  refine grow_bind grow_program fun p=>?_
  cases e <;> simp only <;> first
    | exact grow_panic _
    | exact grow_bind (grow_bind (grow_elemOf _) fun _=>grow_newVar _ _) fun _=>grow_panic _
    | (refine grow_bind (grow_elemOf _) fun _=>grow_bind (grow_newVar _ _) fun _=>grow_panic _)
theorem grow_bp (k:IntKind) (x y:Int) (c:BoundsCode):Grow P (boundsPanic k x y c:Sem α):=by
  unfold boundsPanic
  dsimp only
  split
  · exact grow_bind (grow_map (grow_choose _)) fun _=>grow_rp _
  · exact grow_bind (grow_pure _) fun _=>grow_rp _
theorem grow_asIntOf (v:Value):Grow P (asIntOf v):=by
  unfold asIntOf
  split
  · exact grow_pure _
  · exact grow_unsup _
  · exact grow_stuck _
theorem grow_asInt (v:Value):Grow P (asInt v):=grow_bind (grow_asIntOf v) fun _=>grow_pure _
theorem grow_asBool (v:Value):Grow P (asBool v):=by
  unfold asBool
  split
  · exact grow_pure _
  · exact grow_stuck _
theorem grow_asAgg (v:Value):Grow P (asAgg v):=by
  unfold asAgg
  split
  · exact grow_pure _
  · exact grow_stuck _
theorem grow_viewAt (r:Nat):Grow P (viewAt r):=by
  unfold viewAt
  refine grow_bind (grow_shape r) fun s=>?_
  split
  · exact grow_pure _
  · refine grow_bind (grow_getObj r) fun o=>?_
    split <;> exact grow_pure _
theorem grow_noView (a:Addr):Grow P (noView a):=by
  unfold noView
  refine grow_bind (grow_viewAt _) fun s=>?_
  split
  · exact grow_unsup _
  · exact grow_pure _
theorem grow_byteOf (a:Addr):Grow P (byteOf a):=by
  unfold byteOf
  split
  · exact grow_pure _
  · refine grow_bind grow_program fun p=>grow_bind (grow_noView a) fun _=>grow_bind (grow_shape _) fun s=>?_
    split
    · dsimp only
      split
      · exact grow_pure _
      · split
        · exact grow_pure _
        · exact grow_stuck _
    · exact grow_stuck _
theorem grow_fieldPlace (a:Addr) (f:Field):Grow P (fieldPlace a f):=by
  unfold fieldPlace
  refine grow_bind (grow_sizeOf _) fun n=>?_
  split
  · unfold partAt
    refine grow_bind (grow_byteOf a) fun b=>grow_bind (grow_byteOf _) fun c=>grow_pure _
  · exact grow_pure _
theorem grow_alloc (t:TypeId):Grow P (Instr.alloc t true (.tuple #[])):=by
  unfold Instr.alloc
  refine grow_bind (grow_zeroValue t) fun z=>?_
  exact grow_bind (grow_newVar _ _) fun _=>grow_pure _
theorem grow_box (t:TypeId) (v:Value):Grow P (Instr.box t v):=by
  unfold Instr.box
  exact grow_bind (grow_newVar _ _) fun _=>grow_pure _
theorem grow_loadAt (t:TypeId) (v:Value):Grow P (Instr.loadAt t v):=by
  unfold Instr.loadAt
  exact grow_bind (grow_sureAddr v) fun a=>grow_loadVar t a
theorem grow_fieldAt (s:TypeId) (v:Value) (f:Nat):Grow P (Instr.fieldAt s v f):=by
  unfold Instr.fieldAt
  refine grow_bind (grow_underlying s) fun d=>?_
  split
  · split
    · exact grow_bind (grow_sureAddr v) fun a=>grow_bind (grow_fieldPlace _ _) fun _=>grow_pure _
    · exact grow_stuck _
  · exact grow_stuck _
theorem grow_field (s:TypeId) (v:Value) (f:Nat):Grow P (Instr.field s v f):=by
  unfold Instr.field
  refine grow_bind (grow_underlying s) fun d=>?_
  split
  · split
    · exact grow_bind (grow_asAgg v) fun a=>grow_part _ _ _
    · exact grow_stuck _
  · exact grow_stuck _
theorem grow_extract (v:Value) (i:Nat):Grow P (Instr.extract v i):=by
  unfold Instr.extract
  split
  · split
    · exact grow_pure _
    · exact grow_stuck _
  · exact grow_stuck _
theorem grow_index (t:TypeId) (x i:Value):Grow P (Instr.index t x i):=by
  unfold Instr.index
  refine grow_bind (grow_asIntOf i) fun p=>?_
  refine grow_bind (grow_underlying t) fun d=>?_
  split
  · split
    · exact grow_bind (grow_sizeOf _) fun _=>grow_part _ _ _
    · exact grow_bp _ _ _ _
  · split
    · exact grow_pure _
    · exact grow_bp _ _ _ _
  · exact grow_stuck _
theorem grow_indexAt (t:TypeId) (x i:Value):Grow P (Instr.indexAt t x i):=by
  unfold Instr.indexAt
  repeat' (first
    | exact grow_pure _ | exact grow_pure' _ | exact grow_stuck _ | exact grow_unsup _ | exact grow_panic _ | exact grow_halt _ | exact grow_rp _ | exact grow_bp _ _ _ _
    | exact grow_underlying _ | exact grow_sizeOf _ | exact grow_zeroValue _ | exact grow_sureAddr _ | exact grow_newRow _ _ | exact grow_newVar _ _ | exact grow_asInt _ | exact grow_asIntOf _ | exact grow_asBool _ | exact grow_asAgg _
    | exact grow_choose _ | exact grow_program | exact grow_typeInfo _ | exact grow_shape _ | exact grow_getObj _ | exact grow_byteOf _ | exact grow_newObj _ | exact grow_part _ _ _ | exact grow_loadVar _ _
    | exact grow_map (grow_choose _)
    | refine grow_bind ?_ fun _=>?_
    | split
    | dsimp only)
theorem grow_mapM {f:α→Sem β} (h:∀ x,Grow P (f x)):∀ l:List α,Grow P (l.mapM f)
  | []=>by rw [List.mapM_nil]; exact grow_pure _
  | x::l=>by
    rw [List.mapM_cons]
    exact grow_bind (h x) fun _=>grow_bind (grow_mapM h l) fun _=>grow_pure _
theorem grow_build (t:TypeId) (ps:Array (Nat×Value)):Grow P (Instr.build t ps):=by
  unfold Instr.build
  refine grow_bind (grow_zeroValue t) fun z=>?_
  refine grow_bind (grow_underlying t) fun d=>?_
  split
  · refine grow_bind ?_ fun pl=>?_
    · rw [Array.mapM_eq_mapM_toList]
      exact grow_map (grow_mapM (fun f=>grow_bind (grow_sizeOf _) fun _=>grow_pure _) _)
    · split
      · exact grow_pure _
      · exact grow_stuck _
  · refine grow_bind (grow_sizeOf _) fun n=>?_
    split
    · exact grow_pure _
    · exact grow_stuck _
  · exact grow_stuck _
theorem grow_buildSlice (t:TypeId) (n:Nat) (ps:Array (Nat×Value)):Grow P (Instr.buildSlice t n ps):=by
  unfold Instr.buildSlice
  repeat' (first
    | exact grow_pure _ | exact grow_pure' _ | exact grow_stuck _ | exact grow_unsup _ | exact grow_panic _ | exact grow_halt _ | exact grow_rp _ | exact grow_bp _ _ _ _
    | exact grow_underlying _ | exact grow_sizeOf _ | exact grow_zeroValue _ | exact grow_sureAddr _ | exact grow_newRow _ _ | exact grow_newVar _ _ | exact grow_asInt _ | exact grow_asIntOf _ | exact grow_asBool _ | exact grow_asAgg _
    | exact grow_choose _ | exact grow_program | exact grow_typeInfo _ | exact grow_shape _ | exact grow_getObj _ | exact grow_byteOf _ | exact grow_newObj _ | exact grow_part _ _ _ | exact grow_loadVar _ _
    | exact grow_map (grow_choose _)
    | refine grow_bind ?_ fun _=>?_
    | split
    | dsimp only)
theorem grow_floatArith (op:BinOp) (k:FloatKind) (x y:Nat):Grow P (Op.floatArith op k x y):=by
  unfold Op.floatArith
  repeat' (first
    | exact grow_pure _ | exact grow_pure' _ | exact grow_stuck _ | exact grow_unsup _ | exact grow_panic _ | exact grow_halt _ | exact grow_rp _ | exact grow_bp _ _ _ _
    | exact grow_underlying _ | exact grow_sizeOf _ | exact grow_zeroValue _ | exact grow_sureAddr _ | exact grow_newRow _ _ | exact grow_newVar _ _ | exact grow_asInt _ | exact grow_asIntOf _ | exact grow_asBool _ | exact grow_asAgg _
    | exact grow_choose _ | exact grow_program | exact grow_typeInfo _ | exact grow_shape _ | exact grow_getObj _ | exact grow_byteOf _ | exact grow_newObj _ | exact grow_part _ _ _ | exact grow_loadVar _ _
    | exact grow_map (grow_choose _)
    | refine grow_bind ?_ fun _=>?_
    | split
    | dsimp only)
theorem grow_floatCmp (op:BinOp) (k:FloatKind) (x y:Nat):Grow P (Op.floatCmp op k x y):=by
  unfold Op.floatCmp
  repeat' (first
    | exact grow_pure _ | exact grow_pure' _ | exact grow_stuck _ | exact grow_unsup _ | exact grow_panic _ | exact grow_halt _ | exact grow_rp _ | exact grow_bp _ _ _ _
    | exact grow_underlying _ | exact grow_sizeOf _ | exact grow_zeroValue _ | exact grow_sureAddr _ | exact grow_newRow _ _ | exact grow_newVar _ _ | exact grow_asInt _ | exact grow_asIntOf _ | exact grow_asBool _ | exact grow_asAgg _
    | exact grow_choose _ | exact grow_program | exact grow_typeInfo _ | exact grow_shape _ | exact grow_getObj _ | exact grow_byteOf _ | exact grow_newObj _ | exact grow_part _ _ _ | exact grow_loadVar _ _
    | exact grow_map (grow_choose _)
    | refine grow_bind ?_ fun _=>?_
    | split
    | dsimp only)
theorem grow_unary (op:UnOp) (x:Value):Grow P (Op.unary op x):=by
  unfold Op.unary
  split <;> (try unfold Op.intArith) <;> (try unfold Op.intBits)
  all_goals repeat' (first
    | exact grow_pure _ | exact grow_pure' _ | exact grow_stuck _ | exact grow_unsup _ | exact grow_panic _ | exact grow_halt _ | exact grow_rp _ | exact grow_bp _ _ _ _
    | exact grow_underlying _ | exact grow_sizeOf _ | exact grow_zeroValue _ | exact grow_sureAddr _ | exact grow_newRow _ _ | exact grow_newVar _ _ | exact grow_asInt _ | exact grow_asIntOf _ | exact grow_asBool _ | exact grow_asAgg _
    | exact grow_choose _ | exact grow_program | exact grow_typeInfo _ | exact grow_shape _ | exact grow_getObj _ | exact grow_byteOf _ | exact grow_newObj _ | exact grow_part _ _ _ | exact grow_loadVar _ _
    | exact grow_map (grow_choose _)
    | refine grow_bind ?_ fun _=>?_
    | split
    | dsimp only)
theorem grow_numberAt (r:Nat):Grow P (numberAt r):=by
  unfold numberAt
  repeat' (first
    | exact grow_pure _ | exact grow_pure' _ | exact grow_stuck _ | exact grow_unsup _ | exact grow_panic _ | exact grow_halt _ | exact grow_rp _ | exact grow_bp _ _ _ _
    | exact grow_underlying _ | exact grow_sizeOf _ | exact grow_zeroValue _ | exact grow_sureAddr _ | exact grow_newRow _ _ | exact grow_newVar _ _ | exact grow_asInt _ | exact grow_asIntOf _ | exact grow_asBool _ | exact grow_asAgg _
    | exact grow_choose _ | exact grow_program | exact grow_typeInfo _ | exact grow_shape _ | exact grow_getObj _ | exact grow_byteOf _ | exact grow_newObj _ | exact grow_part _ _ _ | exact grow_loadVar _ _
    | exact grow_map (grow_choose _)
    | refine grow_bind ?_ fun _=>?_
    | split
    | dsimp only)
theorem grow_behind (a:Addr):Grow P (behindNumber a):=by
  unfold behindNumber
  exact grow_bind (grow_numberAt _) fun _=>grow_pure _
theorem grow_shift (op:BinOp) (k j:IntKind) (x y:Int):Grow P (Op.shift op k x j y):=by
  unfold Op.shift
  repeat' (first
    | exact grow_pure _ | exact grow_pure' _ | exact grow_stuck _ | exact grow_unsup _ | exact grow_panic _ | exact grow_halt _ | exact grow_rp _ | exact grow_bp _ _ _ _
    | exact grow_underlying _ | exact grow_sizeOf _ | exact grow_zeroValue _ | exact grow_sureAddr _ | exact grow_newRow _ _ | exact grow_newVar _ _ | exact grow_asInt _ | exact grow_asIntOf _ | exact grow_asBool _ | exact grow_asAgg _
    | exact grow_choose _ | exact grow_program | exact grow_typeInfo _ | exact grow_shape _ | exact grow_getObj _ | exact grow_byteOf _ | exact grow_newObj _ | exact grow_part _ _ _ | exact grow_loadVar _ _
    | exact grow_map (grow_choose _)
    | refine grow_bind ?_ fun _=>?_
    | split
    | dsimp only)
theorem grow_intBits (op:BinOp) (k:IntKind) (x y:Int):Grow P (Op.intBits op k x y):=by
  unfold Op.intBits
  repeat' (first
    | exact grow_pure _ | exact grow_pure' _ | exact grow_stuck _ | exact grow_unsup _ | exact grow_panic _ | exact grow_halt _ | exact grow_rp _ | exact grow_bp _ _ _ _
    | exact grow_underlying _ | exact grow_sizeOf _ | exact grow_zeroValue _ | exact grow_sureAddr _ | exact grow_newRow _ _ | exact grow_newVar _ _ | exact grow_asInt _ | exact grow_asIntOf _ | exact grow_asBool _ | exact grow_asAgg _
    | exact grow_choose _ | exact grow_program | exact grow_typeInfo _ | exact grow_shape _ | exact grow_getObj _ | exact grow_byteOf _ | exact grow_newObj _ | exact grow_part _ _ _ | exact grow_loadVar _ _
    | exact grow_map (grow_choose _)
    | refine grow_bind ?_ fun _=>?_
    | split
    | dsimp only)
theorem grow_intCmp (op:BinOp) (x y:Int):Grow P (Op.intCmp op x y):=by
  unfold Op.intCmp
  repeat' (first
    | exact grow_pure _ | exact grow_pure' _ | exact grow_stuck _ | exact grow_unsup _ | exact grow_panic _ | exact grow_halt _ | exact grow_rp _ | exact grow_bp _ _ _ _
    | exact grow_underlying _ | exact grow_sizeOf _ | exact grow_zeroValue _ | exact grow_sureAddr _ | exact grow_newRow _ _ | exact grow_newVar _ _ | exact grow_asInt _ | exact grow_asIntOf _ | exact grow_asBool _ | exact grow_asAgg _
    | exact grow_choose _ | exact grow_program | exact grow_typeInfo _ | exact grow_shape _ | exact grow_getObj _ | exact grow_byteOf _ | exact grow_newObj _ | exact grow_part _ _ _ | exact grow_loadVar _ _
    | exact grow_map (grow_choose _)
    | refine grow_bind ?_ fun _=>?_
    | split
    | dsimp only)
theorem grow_stringOp (op:BinOp) (x y:ByteArray):Grow P (Op.stringOp op x y):=by
  unfold Op.stringOp
  repeat' (first
    | exact grow_pure _ | exact grow_pure' _ | exact grow_stuck _ | exact grow_unsup _ | exact grow_panic _ | exact grow_halt _ | exact grow_rp _ | exact grow_bp _ _ _ _
    | exact grow_underlying _ | exact grow_sizeOf _ | exact grow_zeroValue _ | exact grow_sureAddr _ | exact grow_newRow _ _ | exact grow_newVar _ _ | exact grow_asInt _ | exact grow_asIntOf _ | exact grow_asBool _ | exact grow_asAgg _
    | exact grow_choose _ | exact grow_program | exact grow_typeInfo _ | exact grow_shape _ | exact grow_getObj _ | exact grow_byteOf _ | exact grow_newObj _ | exact grow_part _ _ _ | exact grow_loadVar _ _
    | exact grow_map (grow_choose _)
    | refine grow_bind ?_ fun _=>?_
    | split
    | dsimp only)
theorem grow_twoPlaces (x y:Addr):Grow P (Op.twoPlaces x y):=by
  unfold Op.twoPlaces
  repeat' (first
    | exact grow_pure _ | exact grow_pure' _ | exact grow_stuck _ | exact grow_unsup _ | exact grow_panic _ | exact grow_halt _ | exact grow_rp _ | exact grow_bp _ _ _ _
    | exact grow_underlying _ | exact grow_sizeOf _ | exact grow_zeroValue _ | exact grow_sureAddr _ | exact grow_newRow _ _ | exact grow_newVar _ _ | exact grow_asInt _ | exact grow_asIntOf _ | exact grow_asBool _ | exact grow_asAgg _
    | exact grow_choose _ | exact grow_program | exact grow_typeInfo _ | exact grow_shape _ | exact grow_getObj _ | exact grow_byteOf _ | exact grow_newObj _ | exact grow_part _ _ _ | exact grow_loadVar _ _
    | exact grow_map (grow_choose _)
    | refine grow_bind ?_ fun _=>?_
    | split
    | dsimp only)
theorem grow_addrCmp (op:BinOp) (x y:Addr):Grow P (Op.addrCmp op x y):=by
  unfold Op.addrCmp
  repeat' (first
    | exact grow_twoPlaces _ _
    | exact grow_pure _ | exact grow_pure' _ | exact grow_stuck _ | exact grow_unsup _ | exact grow_panic _ | exact grow_halt _ | exact grow_rp _ | exact grow_bp _ _ _ _
    | exact grow_underlying _ | exact grow_sizeOf _ | exact grow_zeroValue _ | exact grow_sureAddr _ | exact grow_newRow _ _ | exact grow_newVar _ _ | exact grow_asInt _ | exact grow_asIntOf _ | exact grow_asBool _ | exact grow_asAgg _
    | exact grow_choose _ | exact grow_program | exact grow_typeInfo _ | exact grow_shape _ | exact grow_getObj _ | exact grow_byteOf _ | exact grow_newObj _ | exact grow_part _ _ _ | exact grow_loadVar _ _
    | exact grow_map (grow_choose _)
    | refine grow_bind ?_ fun _=>?_
    | split
    | dsimp only)
theorem grow_addrMod (k:IntKind) (x:Addr) (n:Int):Grow P (Op.addrMod k x n):=by
  unfold Op.addrMod
  repeat' (first
    | exact grow_pure _ | exact grow_pure' _ | exact grow_stuck _ | exact grow_unsup _ | exact grow_panic _ | exact grow_halt _ | exact grow_rp _ | exact grow_bp _ _ _ _
    | exact grow_underlying _ | exact grow_sizeOf _ | exact grow_zeroValue _ | exact grow_sureAddr _ | exact grow_newRow _ _ | exact grow_newVar _ _ | exact grow_asInt _ | exact grow_asIntOf _ | exact grow_asBool _ | exact grow_asAgg _
    | exact grow_choose _ | exact grow_program | exact grow_typeInfo _ | exact grow_shape _ | exact grow_getObj _ | exact grow_byteOf _ | exact grow_newObj _ | exact grow_part _ _ _ | exact grow_loadVar _ _
    | exact grow_map (grow_choose _)
    | refine grow_bind ?_ fun _=>?_
    | split
    | dsimp only)
theorem grow_bare {op:BinOp} (h:op=.and∨op=.or∨op=.xor∨op=.shl∨op=.shr∨op=.lss∨op=.leq∨op=.gtr∨op=.geq) (t:TypeId) (u v:Value) :
    Grow P (binOp op t u v:Sem Value):=by
  unfold binOp
  split
  case h_1=>exact grow_shift _ _ _ _ _
  case h_2=>exact grow_shift _ _ _ _ _
  all_goals first
    | exact grow_stuck _
    | exact grow_unsup _
    | exact grow_stringOp _ _ _
    | exact grow_bind (grow_behind _) fun _=>grow_addrMod _ _ _
    | exact grow_bind (grow_behind _) fun _=>grow_bind (grow_behind _) fun _=>grow_addrCmp _ _ _
    | (exfalso; rcases h with h | h | h | h | h | h | h | h | h <;> cases h; done)
    | (refine grow_ite (grow_stuck _) ?_
       first
        | (split <;> first
            | exact grow_intBits _ _ _ _
            | exact grow_intCmp _ _ _
            | exact grow_floatCmp _ _ _ _
            | (exfalso; simp at h; done)
            | exact grow_floatArith _ _ _ _)
        | (rcases h with rfl | rfl | rfl | rfl | rfl | rfl | rfl | rfl | rfl <;> exact grow_stuck _))
theorem grow_binOp {op:BinOp} (h:op=.and∨op=.or∨op=.xor∨op=.shl∨op=.shr∨op=.lss∨op=.leq∨op=.gtr∨op=.geq) (t:TypeId) (x y:Operand) (u v:Value) :
    Grow P (do eqGuard op t x y u v; binOp op t u v:Sem Value):=by
  refine grow_bind ?_ fun _=>grow_bare h t u v
  rcases h with rfl | rfl | rfl | rfl | rfl | rfl | rfl | rfl | rfl <;> exact grow_pure _
end
end SE
end
end Go.Proofs.YtdgejnakakjgfaaGreatDoor
