/- The symbolic executor: operations that only compute, all of them. The symbolic executor: every operation that only computes. The symbolic executor: worlds; names; loads. -/
import Derived.Test.YtdgejnakakjgfaaGreatDoorQ01
import Derived.Laws.CopyRow
set_option linter.unusedVariables false
set_option linter.unusedSimpArgs false
set_option maxRecDepth 100000
namespace Go.Proofs.YtdgejnakakjgfaaGreatDoor
section
namespace SE
variable {X:Px} {own0:Nat→Prop} {w0 w:World} {E:Env} {st:St} {tm:TT} {a:Act}
structure PkOk (X:Px):Prop where
  fn:∀ g,X.T.pkB g=true→∃ fn,X.T.fn.get g=some fn
  ok:∀ g args st v,X.T.pkB g=true→X.T.pk g args st=some v→∀ own0 w0 E w,G X own0 w0 E st w→∀ vals:Array Value,RL E args vals.toList →
    ∃ x,R E v x∧∀ w,Calls X.P g vals w (fun e w'=>e=.returned x∧w'=w)
theorem call_run (hT:TabOk X) {g:Nat} {fn:Func} (h:X.T.fn.get g=some fn) (args:Array Value) (w:World):(callFunc g args).run X.P w=.ok (.enter g args) w:=by
  obtain ⟨h1,h2,h3⟩:=hT.fn g fn h
  have h2':¬ fn.name = "runtime.NumGoroutine" := by simpa using h2
  have h3':¬ fn.body=none:=fun hh=>by rw [hh] at h3; simp at h3
  simp [callFunc,h1,h2',h3']
theorem callv_run (hT:TabOk X) {g:Nat} {fn:Func} (h:X.T.fn.get g=some fn) (ρ:Operand→Value) (f:Operand) (args:Array Operand) (ats:Array TypeId) (ty:TypeId) (fs cs:Array Value)
    (hf:ρ f=.func (.func g) fs cs) (w:World) :
    (do let d←resolve ρ ⟨.value f,args,ats⟩ ty; invoke d.target d.args:Sem Next).run X.P w=.ok (.enter g (fs++args.map ρ++cs)) w:=by
  simp [resolve,hf,Deferred.ofValue,invoke,call_run hT h]
theorem evalP (h:FOk E tm a):∀ ps:List (Nat×Operand),RP E (rhoP tm ps) (ps.map fun p=>(p.1,a.eval p.2))
  | []=>by simp [rhoP,RP]
  | (i,x)::l=>by simp only [rhoP,List.map_cons,RP]; exact ⟨_,_,rfl,h.eval x,evalP h l⟩
def vNil:Value→Bool
  | .pointer none | .nilFunc | .nilIface=>true
  | .slice none _ _=>true
  | _=>false
theorem nilB_ok {x:SV} {v:Value} {b:Bool} (e:nilB x=some b) (h:R E x v):vNil v=b:=by
  cases x <;> simp only [nilB] at e <;> cases e <;> simp only [R] at h
  case ptr=>obtain ⟨n,_,rfl⟩:=h; rfl
  case nilp=>rw [h]; rfl
  case sp=>obtain ⟨x,l,c,_,_,rfl⟩:=h; rfl
  case sq=>obtain ⟨x,l,c,i,_,_,_,rfl⟩:=h; rfl
  case gp=>rw [h]; rfl
  case slc=>obtain ⟨n,_,rfl⟩:=h; rfl
  case nils=>rw [h]; rfl
  case func=>obtain ⟨x,l,rfl,_⟩:=h; rfl
  case nilf=>rw [h]; rfl
  case iface=>obtain ⟨x,rfl,_⟩:=h; rfl
  case nili=>rw [h]; rfl
theorem equal_ptr {P:Program} {t e:TypeId} (hu:P.underlying t=some (.pointer e)) (p:Option Addr) (w:World):(Op.equal t (.pointer p) (.pointer none)).run P w=.ok p.isNone w:=by
  have h:Op.equal t (.pointer p) (.pointer none)=Op.equalIn (9999+1) t (.pointer p) (.pointer none):=rfl
  rw [h,Op.equalIn,Sem.run_bind,und_run hu]
  cases p <;> rfl
theorem ptr_nil {P:Program} {t e:TypeId} (hu:P.underlying t=some (.pointer e)) {v:Value} {b:Bool} {y:SV} {u:Value} {x:SV} (hx:R E x v) (hb:nilB x=some b)
    (op:BinOp) (ho:op=.eql∨op=.neq) (c d:Operand) (hp:∃ p,v=.pointer p) (hq:u=.pointer none) (w:World) :
    (do eqGuard op t c d v u; binOp op t v u:Sem Value).run P w=.ok (.bool (if op=.eql then b else !b)) w:=by
  have hb':=nilB_ok hb hx
  obtain ⟨p,rfl⟩:=hp
  subst hq
  rcases ho with rfl | rfl <;> cases p <;> simp [vNil] at hb' <;> subst hb' <;> simp [eqGuard,binOp,equal_ptr hu]
theorem ptrT {x:SV} {v:Value} {b:Bool} (hb:nilB x=some b) (h:R E x v) (hx:isPt x=true):∃ p,v=.pointer p:=by
  cases x <;> simp [isPt] at hx <;> simp only [R] at h
  case ptr=>obtain ⟨n,_,rfl⟩:=h; exact ⟨_,rfl⟩
  case nilp=>exact ⟨_,h⟩
  case sp=>obtain ⟨x,l,c,_,_,rfl⟩:=h; exact ⟨_,rfl⟩
  case sq=>obtain ⟨x,l,c,i,_,_,_,rfl⟩:=h; exact ⟨_,rfl⟩
  case gp=>exact ⟨_,h⟩
theorem eqOf_ok {op:BinOp} {q:Bool} (h:eqOf op=some q):(op=.eql∨op=.neq)∧∀ b,(if op=.eql then b else !b)=(bif q then b else !b):=by
  cases op <;> simp only [eqOf] at h <;> cases h
  · exact ⟨.inl rfl,fun b=>rfl⟩
  · exact ⟨.inr rfl,fun b=>rfl⟩
theorem binQ_ok (hT:TabOk X) {op:BinOp} {q:Bool} (hq:eqOf op=some q) {t:Nat} {x y r:SV} {u v:Value} (e:binQ X.T q t x y=some r) (hx:R E x u) (hy:R E y v) (c d:Operand) :
    ∃ z,R E r z∧∀ w,(do eqGuard op t c d u v; binOp op t u v:Sem Value).run X.P w=.ok z w:=by
  obtain ⟨ho,hoq⟩:=eqOf_ok hq
  unfold binQ at e
  cases hty:X.T.ty.get t with
  | none=>simp only [hty] at e; cases e
  | some ty =>
    obtain ⟨dd,i,hd,hi,hs',hb,hu,ha,hl,z,hz,hzr⟩:=hT.ty t ty hty
    simp only [hty] at e
    cases hn:isNil y with
    | true =>
      simp only [hn,cond_true] at e
      cases hund:ty.und <;> simp only [hund] at e <;> try cases e
      rename_i el
      cases hnb:nilB x with
      | none=>simp only [hnb] at e; cases e
      | some b =>
        simp only [hnb] at e
        cases hpt:(isPt x&&isPt y) with
        | false=>rw [hpt] at e; cases e
        | true =>
          rw [hpt] at e
          simp only [Bool.and_eq_true] at hpt
          cases e
          rw [hund] at hu
          cases dd <;> simp [UDok] at hu
          subst hu
          have hqv:v=.pointer none:=by
            cases y <;> simp [isNil] at hn <;> simp [isPt] at hpt
            simpa only [R] using hy
          have hp:∃ p,u=.pointer p:=ptrT hnb hx hpt.1
          refine ⟨_,ofB_ok _,fun w=>?_⟩
          rw [ptr_nil (y:=y) hd hx hnb op ho c d hp hqv w,hoq]
    | false =>
      simp only [hn,cond_false] at e
      cases x <;> try (simp only at e; cases e)
      cases y <;> try (simp only at e; cases e)
      rename_i l m
      cases hsh:(X.T.eqt t&&(shapeS ty.zero l&&shapeS ty.zero m)) with
      | false=>simp only [hsh,cond_false] at e; cases e
      | true =>
        simp only [hsh,cond_true] at e
        simp only [Bool.and_eq_true] at hsh
        cases e
        simp only [R] at hx hy
        obtain ⟨xs,rfl,hxs⟩:=hx
        obtain ⟨ys,rfl,hys⟩:=hy
        obtain ⟨b,hb⟩:=hT.eqt t hsh.1 ty hty E l m hsh.2.1 hsh.2.2 xs ys hxs hys op ho c d
        exact ⟨.bool b,by simp only [R]; exact ⟨b,rfl⟩,hb⟩
theorem equal_slice {P:Program} {t e:TypeId} (hu:P.underlying t=some (.slice e)) (p:Option Addr) (n m:Nat) (w:World):(Op.equal t (.slice p n m) (.slice none 0 0)).run P w=.ok p.isNone w:=by
  have h:Op.equal t (.slice p n m) (.slice none 0 0)=Op.equalIn (9999+1) t (.slice p n m) (.slice none 0 0):=rfl
  rw [h,Op.equalIn,Sem.run_bind,und_run hu]
  cases p <;> rfl
theorem slQ_ok (hT:TabOk X) (g:G X own0 w0 E st w) {op:BinOp} {q:Bool} (hq:eqOf op=some q) {t:Nat} {x y r:SV} {u v:Value} (e:slQ X.T st q t x y=some r) (hx:R E x u) (hy:R E y v) (c d:Operand) :
    ∃ z,R E r z∧∀ w,(do eqGuard op t c d u v; binOp op t u v:Sem Value).run X.P w=.ok z w:=by
  obtain ⟨ho,hoq⟩:=eqOf_ok hq
  unfold slQ at e
  cases y <;> simp only at e <;> try cases e
  simp only [R] at hy
  subst hy
  cases hty:X.T.ty.get t with
  | none=>simp only [hty] at e; cases e
  | some ty =>
    obtain ⟨dd,i,hd,hi,hs',hb,hu,ha,hl,z,hz,hzr⟩:=hT.ty t ty hty
    simp only [hty] at e
    cases hund:ty.und <;> simp only [hund] at e <;> try cases e
    rename_i el
    rw [hund] at hu
    cases dd <;> simp [UDok] at hu
    have key:∀ (p:Option Addr) (n m:Nat) w,(do eqGuard op t c d (.slice p n m) (.slice none 0 0); binOp op t (.slice p n m) (.slice none 0 0):Sem Value).run X.P w=.ok (.bool (if op=.eql then p.isNone else !p.isNone)) w:=by
      intro p n m w
      rcases ho with rfl | rfl <;> simp [eqGuard,binOp,equal_slice hd]
    cases x <;> simp only at e <;> try cases e
    case slc.refl b off len cap =>
      simp only [R] at hx
      obtain ⟨n,hn,rfl⟩:=hx
      exact ⟨_,ofB_ok _,fun w=>by rw [key,hoq]; cases q <;> rfl⟩
    case nils.refl =>
      simp only [R] at hx
      subst hx
      exact ⟨_,ofB_ok _,fun w=>by rw [key,hoq]; cases q <;> rfl⟩
    case sl s =>
      simp only [R] at hx
      obtain ⟨base,ln,cp,hE,rfl⟩:=hx
      cases hl:lk st.sls s with
      | none=>simp only [hl] at e; cases e
      | some si =>
        cases si with
        | bytes len =>
          simp only [hl] at e
          cases e
          exact ⟨_,by simp only [R]; exact ⟨_,rfl⟩,fun w=>key _ _ _ w⟩
        | row b len =>
          simp only [hl] at e
          cases e
          obtain ⟨n,cap,h1,h2⟩:=g.sls s _ hl
          rw [hE] at h2
          cases h2
          exact ⟨_,ofB_ok _,fun w=>by rw [key,hoq]; cases q <;> rfl⟩
        | own b nm args=>simp only [hl] at e; cases e
theorem binS_ok (hT:TabOk X) (g:G X own0 w0 E st w) {op:BinOp} {t:Nat} {x y r:SV} {u v:Value} (e:binS X.T st op t x y=some r) (hx:R E x u) (hy:R E y v) (c d:Operand) :
    ∃ z,R E r z∧∀ w,(do eqGuard op t c d u v; binOp op t u v:Sem Value).run X.P w=.ok z w:=by
  unfold binS at e
  have fall:(match eqOf op with
    | some q=>match slQ X.T st q t x y with
      | some r=>some r
      | none=>binQ X.T q t x y
    | none=>none)=some r→∃ z,R E r z∧∀ w,(do eqGuard op t c d u v; binOp op t u v:Sem Value).run X.P w=.ok z w:=by
    intro e
    cases hq:eqOf op with
    | none=>simp only [hq] at e; cases e
    | some q =>
      simp only [hq] at e
      cases hsq:slQ X.T st q t x y with
      | some r'=>simp only [hsq] at e; cases e; exact slQ_ok hT g hq hsq hx hy c d
      | none=>simp only [hsq] at e; exact binQ_ok hT hq e hx hy c d
  cases hr1:rng st x with
  | none=>simp only [hr1] at e; exact fall e
  | some p =>
    cases hr2:rng st y with
    | none=>simp only [hr1,hr2] at e; exact fall e
    | some q =>
      obtain ⟨k,l1,h1⟩:=p
      obtain ⟨j,l2,h2⟩:=q
      simp only [hr1,hr2] at e
      obtain ⟨z1,rfl,b1,b2⟩:=rng_ok g hr1 hx
      obtain ⟨z2,rfl,b3,b4⟩:=rng_ok g hr2 hy
      cases hs:isShift op with
      | true =>
        simp only [hs,cond_true] at e
        have ho:op=.shl∨op=.shr:=by cases op <;> simp [isShift] at hs <;> simp
        obtain ⟨z,hz,hrun⟩:=shift_ok (P:=X.P) (E:=E) ho e b1 b2 b3 b4 t c d
        exact ⟨_,hz,hrun⟩
      | false =>
        simp only [hs,cond_false] at e
        cases hc:cmpOf op with
        | some cm =>
          simp only [hc] at e
          obtain ⟨k',a',b',h1',h2',hr'⟩:=cmpSV_ok g e hx hy
          cases h1'
          cases h2'
          exact ⟨_,hr',fun w=>cmpOf_ok hc t c d k z1 z2 w⟩
        | none =>
          simp only [hc] at e
          cases hk:eqK k j with
          | false=>rw [hk] at e; cases e
          | true =>
            rw [hk] at e
            have:=eqK_iff hk
            subst this
            obtain ⟨z,hz,hrun⟩:=arith_ok (P:=X.P) (E:=E) e b1 b2 b3 b4 t c d
            exact ⟨_,hz,hrun⟩
end SE
end
section
namespace SE
variable {X:Px} {own0:Nat→Prop} {w0 w:World} {E:Env} {st:St} {tm:TT} {a:Act}
theorem optC_ok (g:G X own0 w0 E st w) (f:FOk E tm a) {x:Option Operand} {n:Option Nat} (e:optC st (optS tm x)=some n) :
    (x.map a.eval)=none∧n=none∨∃ k m,x.map a.eval=some (.int k (m:Nat))∧n=some m:=by
  cases x with
  | none=>simp only [optS,optC] at e; cases e; exact .inl ⟨rfl,rfl⟩
  | some x =>
    simp only [optS,optC] at e
    cases hc:cstN st (rho tm x) with
    | none=>simp only [hc] at e; cases e
    | some m =>
      simp only [hc] at e
      cases e
      obtain ⟨k,hk⟩:=cstN_ok g hc (f.eval x)
      exact .inr ⟨k,m,by simp [hk],rfl⟩
theorem bound_run {P:Program} {k:IntKind} {m y:Nat} {c:BoundsCode} (h:m≤y) (w:World):(Instr.sliceBound (.int k (m:Nat)) y c).run P w=.ok m w:=by
  simp [Instr.sliceBound,asIntOf,h]
theorem bounds_run {P:Program} {isS:Bool} {len cap:Nat} {lo hi mx:Option Nat} {l h m:Nat} (e:boundsC len cap lo hi mx=some (l,h,m)) {vl vh vm:Option Value}
    (hl:vl=none∧lo=none∨∃ k n,vl=some (.int k (n:Nat))∧lo=some n) (hh:vh=none∧hi=none∨∃ k n,vh=some (.int k (n:Nat))∧hi=some n)
    (hm:vm=none∧mx=none∨∃ k n,vm=some (.int k (n:Nat))∧mx=some n) (w:World) :
    (Instr.sliceBounds isS len cap vl vh vm).run P w=.ok (l,h,m) w∧l≤h∧h≤m∧m≤cap:=by
  simp only [boundsC,cond_eq_ite,Bool.and_eq_true,Nat.ble_eq] at e
  split at e
  · rename_i hc
    obtain ⟨⟨h1,h2,h3⟩,h4⟩:=hc
    simp only [Option.some.injEq,Prod.mk.injEq] at e
    obtain ⟨rfl,rfl,rfl⟩:=e
    refine ⟨?_,h3,h2,h1⟩
    rcases hm with ⟨rfl,rfl⟩ | ⟨k3,n3,rfl,rfl⟩
    · rcases hh with ⟨rfl,rfl⟩ | ⟨k2,n2,rfl,rfl⟩ <;> rcases hl with ⟨rfl,rfl⟩ | ⟨k1,n1,rfl,rfl⟩ <;> simp at h1 h2 h3 <;> simp [Instr.sliceBounds,bound_run,h1,h2,h3]
    · rcases hh with ⟨rfl,rfl⟩ | ⟨k2,n2,rfl,rfl⟩
      · simp at h4
      · rcases hl with ⟨rfl,rfl⟩ | ⟨k1,n1,rfl,rfl⟩ <;> simp at h1 h2 h3 <;> simp [Instr.sliceBounds,bound_run,h1,h2,h3]
  · cases e
theorem foldMM_ok {P:Program} (g:G X own0 w0 E st w) (isMax:Bool):∀ {l:List SV} {vs:List Value} {k:IntKind} {lo hi z:Int} {r:SV},foldMM st isMax k lo hi l=some r→RL E l vs→lo≤z→z≤hi →
    ∃ x,R E r x∧∀ w,(vs.foldlM (if isMax then Builtin.max2 else Builtin.min2) (.int k z)).run P w=.ok x w
  | [],vs,k,lo,hi,z,r,e,h,h1,h2=>by
    simp only [foldMM] at e
    cases e
    rw [RL_nil.1 h]
    exact ⟨.int k z,by simp only [R,SIok]; exact ⟨z,⟨h1,h2⟩,rfl⟩,fun w=>rfl⟩
  | v::l,[],k,lo,hi,z,r,e,h,h1,h2=>by simp [RL] at h
  | v :: l,u::vs,k,lo,hi,z,r,e,h,h1,h2=>by
    simp only [foldMM] at e
    cases hr:rng st v with
    | none=>simp only [hr] at e; cases e
    | some p =>
      obtain ⟨j,x,y⟩:=p
      simp only [hr] at e
      obtain ⟨q,rfl,q1,q2⟩:=rng_ok g hr (RL_cons.1 h).1
      cases hk:eqK j k with
      | false=>simp only [hk,cond_false] at e; cases e
      | true =>
        have:=eqK_iff hk
        subst this
        simp only [hk,cond_true] at e
        cases isMax with
        | true =>
          simp only [cond_true] at e
          have a1:=le_mx lo x
          have a2:=le_mx hi y
          obtain ⟨r',hr',hrun⟩:=foldMM_ok (P:=P) g true (z:=if q > z then q else z) e (RL_cons.1 h).2 (by split <;> omega) (by split <;> omega)
          exact ⟨r',hr',fun w=>by simp only [List.foldlM_cons,if_true,Builtin.max2,Sem.run_bind,Sem.run_pure,Result.andThen_ok]; exact hrun w⟩
        | false =>
          simp only [cond_false] at e
          have a1:=mn_le lo x
          have a2:=mn_le hi y
          obtain ⟨r',hr',hrun⟩:=foldMM_ok (P:=P) g false (z:=if q<z then q else z) e (RL_cons.1 h).2 (by split <;> omega) (by split <;> omega)
          exact ⟨r',hr',fun w=>by simp only [List.foldlM_cons,Builtin.min2,Bool.false_eq_true,if_false,Sem.run_bind,Sem.run_pure,Result.andThen_ok]; exact hrun w⟩
theorem lenS_ok (g:G X own0 w0 E st w) {x:SV} {v:Value} {l:SI} (e:lenS st x=some l) (h:R E x v):∃ b n c,v=.slice b n c∧SIok E l n:=by
  cases x <;> simp only [lenS] at e <;> try cases e
  case slc=>simp only [R] at h; obtain ⟨n,_,rfl⟩:=h; exact ⟨_,_,_,rfl,by simp [SIok]⟩
  case nils=>simp only [R] at h; exact ⟨_,_,_,h,by simp [SIok]⟩
  case sl i =>
    simp only [R] at h
    obtain ⟨b,n,c,hE,rfl⟩:=h
    cases hi:lk st.sls i with
    | none=>simp only [hi] at e; cases e
    | some s =>
      have hs:=g.sls i s hi
      cases s with
      | bytes l' =>
        simp only [hi] at e
        cases e
        obtain ⟨b',n',c',hE',hl,_⟩:=hs
        rw [hE] at hE'
        cases hE'
        exact ⟨_,_,_,rfl,hl⟩
      | row bb len =>
        simp only [hi] at e
        cases e
        obtain ⟨n',c',_,hE'⟩:=hs
        rw [hE] at hE'
        cases hE'
        exact ⟨_,_,_,rfl,by simp [SIok]⟩
      | own bb nm args=>simp only [hi] at e; cases e
theorem builtP_ok (hT:TabOk X) (g:G X own0 w0 E st w) {b:Builtin} {ats:Array TypeId} {ty:TypeId} {args:List SV} {vals:Array Value} {v:SV}
    (e:builtP X.T st b ats.toList args=some v) (h:RL E args vals.toList):∃ x,R E v x∧∀ (cn:Array Bool) w,(builtin b ats ty cn vals).run X.P w=.ok (.value x) w:=by
  obtain ⟨vals⟩:=vals
  obtain ⟨ats⟩:=ats
  simp only at e h
  unfold builtP at e
  split at e
  · rename_i t x
    cases hty:X.T.ty.get t with
    | none=>simp only [hty] at e; cases e
    | some y =>
      obtain ⟨dd,i,hd,hi,hs',hb,hu,ha,hl,z,hz,hzr⟩:=hT.ty t y hty
      simp only [hty] at e
      match vals,h with
      | [u],h =>
        have hx:=(RL_cons.1 h).1
        cases hund:y.und <;> simp only [hund] at e <;> try cases e
        · rename_i el
          rw [hund] at hu
          cases dd <;> simp [UDok] at hu
          cases hls:lenS st x with
          | none=>simp only [hls] at e; cases e
          | some l =>
            simp only [hls] at e
            cases e
            obtain ⟨b,n,c,rfl,hsi⟩:=lenS_ok g hls hx
            exact ⟨.int .i64 n,by simp only [R]; exact ⟨_,hsi,rfl⟩,fun cn w=>by simp [builtin,Builtin.len_,und_run hd,goInt]⟩
        · rename_i n el
          rw [hund] at hu
          cases dd <;> simp [UDok] at hu
          obtain ⟨rfl,rfl⟩:=hu
          exact ⟨.int .i64 _,by simp only [R,SIok]; exact ⟨_,⟨Int.le_refl _,Int.le_refl _⟩,rfl⟩,fun cn w=>by simp [builtin,Builtin.len_,und_run hd,goInt]⟩
      | [],h=>simp [RL] at h
      | _::_::_,h=>simp [RL] at h
  · rename_i x l
    cases hr:rng st x with
    | none=>simp only [hr] at e; cases e
    | some p =>
      obtain ⟨k,lo,hi⟩:=p
      simp only [hr] at e
      match vals,h with
      | [],h=>simp [RL] at h
      | u :: us,h =>
        obtain ⟨z,rfl,z1,z2⟩:=rng_ok g hr (RL_cons.1 h).1
        obtain ⟨x',hx',hrun⟩:=foldMM_ok (P:=X.P) g true e (RL_cons.1 h).2 z1 z2
        exact ⟨x',hx',fun cn w=>by
          have h2:=hrun w
          simp only [if_true] at h2
          simp [builtin,Builtin.max_,h2]⟩
  · rename_i x l
    cases hr:rng st x with
    | none=>simp only [hr] at e; cases e
    | some p =>
      obtain ⟨k,lo,hi⟩:=p
      simp only [hr] at e
      match vals,h with
      | [],h=>simp [RL] at h
      | u :: us,h =>
        obtain ⟨z,rfl,z1,z2⟩:=rng_ok g hr (RL_cons.1 h).1
        obtain ⟨x',hx',hrun⟩:=foldMM_ok (P:=X.P) g false e (RL_cons.1 h).2 z1 z2
        exact ⟨x',hx',fun cn w=>by
          have h2:=hrun w
          simp only [Bool.false_eq_true,if_false] at h2
          simp [builtin,Builtin.min_,h2]⟩
  · cases e
theorem typ_some (hT:TabOk X) {t:Nat} {y:TY} (h:X.T.ty.get t=some y):∃ d i,X.P.underlying t=some d∧X.P.info? t=some i∧i.size=y.size∧UDok y.und d:=by
  obtain ⟨d,i,hd,hi,hs',hb,hu,_⟩:=hT.ty t y h
  exact ⟨d,i,hd,hi,hs',hu⟩
theorem fieldPlace_run {P:Program} {n off:Nat} {f:Field} {i:TypeInfo} (hi:P.info? f.type=some i) (h:i.size≠0) (w:World):(fieldPlace ⟨n,off,none⟩ f).run P w=.ok ⟨n,off+f.offset,none⟩ w:=by
  simp [fieldPlace,size_run hi,h,add_none]
theorem sliceC_ok (g:G X own0 w0 E st w) (f:FOk E tm a) {b off len cap sz n:Nat} {lo hi mx:Option Operand} {v:SV} (hb:E b=some (.blk n)) (e:sliceC st b off len cap sz (optS tm lo) (optS tm hi) (optS tm mx)=some v) :
    ∃ l h m,v=.slc b (if m=l then off else off+l*sz) (h - l) (m - l)∧∀ isS w,(Instr.sliceBounds isS len cap (lo.map a.eval) (hi.map a.eval) (mx.map a.eval)).run X.P w=.ok (l,h,m) w:=by
  unfold sliceC at e
  cases h1:optC st (optS tm lo) with
  | none=>simp only [h1] at e; cases e
  | some q1 =>
    cases h2:optC st (optS tm hi) with
    | none=>simp only [h1,h2] at e; cases e
    | some q2 =>
      cases h3:optC st (optS tm mx) with
      | none=>simp only [h1,h2,h3] at e; cases e
      | some q3 =>
        simp only [h1,h2,h3] at e
        cases h4:boundsC len cap q1 q2 q3 with
        | none=>simp only [h4] at e; cases e
        | some p =>
          obtain ⟨l,h,m⟩:=p
          simp only [h4,Option.some.injEq] at e
          refine ⟨l,h,m,?_,fun isS w=>(bounds_run h4 (optC_ok g f h1) (optC_ok g f h2) (optC_ok g f h3) w).1⟩
          rw [← e]
          cases hm:Nat.beq m l with
          | true=>rw [if_pos (nbeq hm)]; rfl
          | false=>rw [if_neg (nbeq_false hm)]; rfl
theorem v_run {P:Program} {s:Sem Value} {x:Value} {w:World} (h:s.run P w=.ok x w):(do pure (Next.value (← s)):Sem Next).run P w=.ok (.value x) w:=by simp [h]
theorem idx_arr {P:Program} {t el n m:Nat} {p:Addr} {k:IntKind} {i:TypeInfo} (hd:P.underlying t=some (.array n el)) (hi:P.info? el=some i) (hm:m<n) (w:World) :
    (Instr.indexAt t (.pointer (some p)) (.int k (m:Nat))).run P w=.ok (.pointer (some (p.add (m*i.size)))) w:=by
  simp [Instr.indexAt,asIntOf,und_run hd,Instr.sureAddr,hm,size_run hi]
theorem idx_sl {P:Program} {t el n m c:Nat} {p:Addr} {k:IntKind} {i:TypeInfo} (hd:P.underlying t=some (.slice el)) (hi:P.info? el=some i) (hm:m<n) (w:World) :
    (Instr.indexAt t (.slice (some p) n c) (.int k (m:Nat))).run P w=.ok (.pointer (some (p.add (m*i.size)))) w:=by
  simp [Instr.indexAt,asIntOf,und_run hd,hm,size_run hi]
theorem pureOp_ok (hT : TabOk X) (hP:PkOk X) (g:G X own0 w0 E st w) (f:FOk E tm a) {o:Oper} {v:SV} (e:pureOp X.T tm st o.op=some v):∃ x,R E v x∧Yl X.P (execOp a.eval o) x:=by
  obtain ⟨dst,op,type,pos,after,guard⟩:=o
  cases op <;> simp only [pureOp] at e <;> try cases e
  case move x=>exact ⟨_,f.eval x,.inl fun w=>by simp [execOp]⟩
  case assign x=>exact ⟨_,f.eval x,.inl fun w=>by simp [execOp]⟩
  case pick c x y =>
    cases hb:evalB st (rho tm c) with
    | some b =>
      have hc:=evalB_ok g hb (f.eval c)
      simp only [hb] at e
      cases b <;> (simp only at e; cases e)
      · exact ⟨_,f.eval y,.inl fun w=>by simp [execOp,hc,asBool]⟩
      · exact ⟨_,f.eval x,.inl fun w=>by simp [execOp,hc,asBool]⟩
    | none =>
      simp only [hb,cond_eq_ite,Bool.and_eq_true] at e
      split at e
      · rename_i hh
        cases e
        obtain ⟨b,hc⟩:=isB_ok hh.1 (f.eval c)
        obtain ⟨b1,h1⟩:=isB_ok hh.2.1 (f.eval x)
        obtain ⟨b2,h2⟩:=isB_ok hh.2.2 (f.eval y)
        exact ⟨.bool (if b then b1 else b2),by simp only [R]; exact ⟨_,rfl⟩,.inl fun w=>by cases b <;> simp [execOp,hc,asBool,h1,h2]⟩
      · cases e
  case nilCheck x =>
    have hx:=f.eval x
    cases hr:rho tm x <;> rw [hr] at hx <;> simp only [hr] at e <;> try cases e
    · simp only [R] at hx
      obtain ⟨n,hn,he⟩:=hx
      exact ⟨_,by simp only [R]; exact ⟨n,hn,rfl⟩,.inl fun w=>by simp [execOp,he]⟩
    · simp only [R] at hx
      obtain ⟨p,l,c,h1,h2,he⟩:=hx
      exact ⟨_,by simp only [R]; exact ⟨p,l,c,h1,h2,rfl⟩,.inl fun w=>by simp [execOp,he]⟩
    · simp only [R] at hx
      exact ⟨a.eval x,by simp only [R]; exact hx,.inl fun w=>by simp [execOp,hx]⟩
    · rename_i fn fs cs
      cases fn <;> simp only at e <;> try cases e
      simp only [R] at hx
      obtain ⟨p,l,he,h1,h2⟩:=hx
      exact ⟨_,by simp only [R]; exact ⟨p,l,rfl,h1,h2⟩,.inl fun w=>by simp [execOp,he]⟩
  case binOp op t x y yt =>
    cases hb:binS X.T st op t (rho tm x) (rho tm y) with
    | none=>simp only [hb] at e; cases e
    | some r =>
      simp only [hb] at e
      cases e
      obtain ⟨z,hz,hrun⟩:=binS_ok hT g hb (f.eval x) (f.eval y) x y
      exact ⟨z,hz,.inl fun w=>by simpa [execOp] using v_run (hrun w)⟩
  case unOp op t x =>
    have hx:=f.eval x
    cases op <;> simp only [pureOp] at e
    case plus=>cases e
    case not =>
      cases hr:rho tm x <;> rw [hr] at hx e <;> simp only [notM] at e <;> try cases e
      · simp only [R] at hx
        exact ⟨.bool false,by simp [R],.inl fun w=>by simp [execOp,hx,Op.unary]⟩
      · simp only [R] at hx
        exact ⟨.bool true,by simp [R],.inl fun w=>by simp [execOp,hx,Op.unary]⟩
      · simp only [R] at hx
        obtain ⟨b,hx⟩:=hx
        exact ⟨.bool (!b),by simp [R],.inl fun w=>by simp [execOp,hx,Op.unary]⟩
      · simp only [R] at hx
        obtain ⟨z,hz,hx⟩:=hx
        exact ⟨.bool _,by simp only [R]; exact ⟨z,hz,rfl⟩,.inl fun w=>by simp [execOp,hx,Op.unary,cmpZ_neg]⟩
    case neg =>
      cases hr:rng st (rho tm x) with
      | none=>simp only [hr] at e; cases e
      | some p =>
        obtain ⟨k,lo,hi⟩:=p
        simp only [hr] at e
        cases e
        obtain ⟨z,hz,z1,z2⟩:=rng_ok g hr hx
        exact ⟨_,mk_ok (z:=0 - z) (by omega) (by omega),.inl fun w=>by simp [execOp,hz,Op.unary,Op.intArith]⟩
    case xor =>
      cases hr:rng st (rho tm x) with
      | none=>simp only [hr] at e; cases e
      | some p =>
        obtain ⟨k,lo,hi⟩:=p
        simp only [hr] at e
        cases e
        obtain ⟨z,hz,z1,z2⟩:=rng_ok g hr hx
        exact ⟨_,full_ok k _,.inl fun w=>by simp [execOp,hz,Op.unary,Op.intBits]; rfl⟩
  case convert s d x =>
    cases hs:X.T.ty.get s with
    | none=>simp only [hs] at e; cases e
    | some ys =>
      simp only [hs] at e
      obtain ⟨d1,i1,hd1,hi1,hs1,hu1⟩:=typ_some hT hs
      unfold convS at e
      cases hd:X.T.ty.get d with
      | none=>simp only [hd] at e; cases e
      | some yd =>
        obtain ⟨d2,i2,hd2,hi2,hs2,hu2⟩:=typ_some hT hd
        simp only [hd] at e
        cases hund:yd.und <;> simp only [hund] at e <;> try cases e
        rename_i k
        rw [hund] at hu2
        cases d2 <;> simp [UDok] at hu2
        have hu2':=hu2.symm
        subst hu2'
        have hx:=f.eval x
        cases hr:rho tm x <;> rw [hr] at hx <;> simp only [hr] at e <;> try cases e
        rename_i j i
        simp only [R] at hx
        obtain ⟨z,hz,hxe⟩:=hx
        cases hri:rngI st i with
        | none=>simp only [hri] at e; cases e
        | some p =>
          obtain ⟨lo,hi⟩:=p
          simp only [hri] at e
          obtain ⟨z1,z2⟩:=rngI_ok g hri hz
          have hrun:∀ w,(convert s d (.int j z)).run X.P w=.ok (.int k (k.wrap z)) w:=fun w=>by
            unfold convert
            rw [Sem.run_bind,und_run hd1,Result.andThen_ok,Sem.run_bind,und_run hd2,Result.andThen_ok]
            cases d1 <;> rfl
          cases hin:inK k lo hi with
          | true =>
            simp only [hin,cond_true] at e
            cases e
            simp only [inK,Bool.and_eq_true,decide_eq_true_eq] at hin
            refine ⟨.int k z,by simp only [R]; exact ⟨z,hz,rfl⟩,.inl fun w=>?_⟩
            have:=hrun w
            rw [wrap_in (by omega) (by omega)] at this
            simpa [execOp,hxe] using v_run this
          | false =>
            simp only [hin,cond_false] at e
            cases e
            exact ⟨_,full_ok k z,.inl fun w=>by simpa [execOp,hxe] using v_run (hrun w)⟩
  case sliceToArrayPointer t x =>
    cases hs:X.T.ty.get t with
    | none=>simp only [hs] at e; cases e
    | some y =>
      obtain ⟨d1,i1,hd1,hi1,hs1,hu1⟩:=typ_some hT hs
      simp only [hs] at e
      cases hund:y.und <;> simp only [hund] at e <;> try cases e
      rename_i n el
      rw [hund] at hu1
      cases d1 <;> simp [UDok] at hu1
      rename_i m1 el1
      obtain ⟨hn1,hn2⟩:=hu1
      have hx:=f.eval x
      cases hr:rho tm x <;> rw [hr] at hx <;> simp only [hr] at e <;> try cases e
      · rename_i b off len cap
        simp only [cond_eq_ite,Nat.ble_eq] at e
        split at e
        · rename_i hle
          cases e
          simp only [R] at hx
          obtain ⟨m,hm,hx⟩:=hx
          exact ⟨_,by simp only [R]; exact ⟨m,hm,rfl⟩,.inl fun w=>by simp [execOp,hx,Instr.arrayAt,und_run hd1,show ¬ len<m1 by omega]⟩
        · cases e
      · rename_i i
        cases hl:lk st.sls i with
        | none=>simp only [hl] at e; cases e
        | some s =>
          have hsl:=g.sls i s hl
          cases s <;> simp only [hl] at e <;> try cases e
          rename_i len
          cases hri:rngI st len with
          | none=>simp only [hri] at e; cases e
          | some p =>
            obtain ⟨lo,hi⟩:=p
            simp only [hri,cond_eq_ite,Bool.and_eq_true,decide_eq_true_eq] at e
            split at e
            · rename_i hc
              cases e
              obtain ⟨base,ln,cp,hE,hsi,hlc,hbr,_⟩:=hsl
              have hz:=rngI_ok g hri hsi
              have hpos:0<n:=Nat.le_of_ble_eq_true hc.1
              have hc2:=hc.2
              simp only [Int.ofNat_eq_natCast] at hc2
              simp only [R] at hx
              obtain ⟨b',l',c',hE',hx⟩:=hx
              rw [hE] at hE'
              cases hE'
              cases base with
              | none=>simp only [ByteRow] at hbr; omega
              | some p =>
                obtain ⟨hsp,_⟩:=hbr
                exact ⟨_,by simp only [R]; exact ⟨p,_,_,hE,hsp,rfl⟩,.inl fun w=>by simp [execOp,hx,Instr.arrayAt,und_run hd1,show ¬ ln<m1 by omega]⟩
            · cases e
  case makeInterface t x =>
    cases hs:X.T.ty.get t with
    | none=>simp only [hs] at e; cases e
    | some y =>
      obtain ⟨d1,i1,hd1,hi1,hs1,hu1⟩:=typ_some hT hs
      simp only [hs] at e
      have hx:=f.eval x
      have hrun:(∃ ms,d1=.interface ms)∨∀ w,(Instr.makeInterface t (a.eval x)).run X.P w=.ok (.iface t (a.eval x)) w:=by
        cases d1 <;> first | exact .inl ⟨_,rfl⟩ | exact .inr fun w=>by simp [Instr.makeInterface,und_run hd1]
      have hne:(∃ ms,d1=.interface ms)→False:=by
        rintro ⟨ms,rfl⟩
        cases hund:y.und <;> rw [hund] at hu1 <;> simp only [hund] at e <;> simp [UDok] at hu1 <;> cases e
      rcases hrun with h | h
      · exact (hne h).elim
      · have e2:v=.iface t (rho tm x):=by
          cases hund:y.und <;> simp only [hund] at e <;> cases e <;> rfl
        subst e2
        exact ⟨_,by simp only [R]; exact ⟨_,rfl,hx⟩,.inl fun w=>by simpa [execOp] using v_run (h w)⟩
  case makeFunc fn fs cs =>
    refine ⟨.func fn (fs.map a.eval) (cs.map a.eval),?_,.inl fun w=>by simp [execOp,Instr.makeFunc]⟩
    simp only [R]
    exact ⟨_,_,rfl,by simpa using f.evalL fs.toList,by simpa using f.evalL cs.toList⟩
  case extract x i =>
    have hx:=f.eval x
    cases hr:rho tm x <;> rw [hr] at hx <;> simp only [hr] at e <;> try cases e
    rename_i l
    cases hn:nth l i with
    | none=>simp only [hn] at e; cases e
    | some y =>
      simp only [hn] at e
      cases e
      simp only [R] at hx
      obtain ⟨cs,hx,hl⟩:=hx
      obtain ⟨u,hu,hru⟩:=RL_nth hl hn
      have hu':cs[i]?=some u:=by simpa using hu
      exact ⟨u,hru,.inl fun w=>by simp [execOp,hx,Instr.extract,hu']⟩
  case build t ps =>
    cases hs:X.T.ty.get t with
    | none=>simp only [hs] at e; cases e
    | some y =>
      simp only [hs] at e
      cases hk:knownT X.T y.und with
      | false=>simp only [hk,cond_false] at e; cases e
      | true =>
        simp only [hk,cond_true] at e
        cases hf:fillS (placeS X.T y) y.zero (rhoP tm ps.toList) with
        | none=>simp only [hf] at e; cases e
        | some cs =>
          simp only [hf] at e
          cases e
          obtain ⟨x,hx,hrun⟩:=build_ok (E:=E) hT hs hk (pv:=ps.map fun p=>(p.1,a.eval p.2)) (by simpa using evalP f ps.toList) hf
          exact ⟨x,hx,.inl fun w=>by simpa [execOp] using v_run (hrun w)⟩
  case fieldAddr t x fi =>
    have hx:=f.eval x
    cases hr:rho tm x <;> rw [hr] at hx <;> simp only [hr] at e <;> try cases e
    rename_i b off
    cases hfs:fieldS X.T t fi with
    | none=>simp only [hfs] at e; cases e
    | some p =>
      obtain ⟨y,o⟩:=p
      simp only [hfs] at e
      obtain ⟨fs,fd,hd,hfd,rfl,hy⟩:=fieldS_ok hT hfs
      obtain ⟨d1,i1,hd1,hi1,hs1,hu1⟩:=typ_some hT hy
      cases hz:Nat.beq y.size 0 with
      | true=>simp only [hz,cond_true] at e; cases e
      | false =>
        simp only [hz,cond_false] at e
        cases e
        have hne:=nbeq_false hz
        simp only [R] at hx
        obtain ⟨n,hn,hx⟩:=hx
        exact ⟨_,by simp only [R]; exact ⟨n,hn,rfl⟩,.inl fun w=>by
          simp [execOp,hx,Instr.fieldAt,und_run hd,hfd,Instr.sureAddr,fieldPlace_run hi1 (by omega)]⟩
  case field t x fi =>
    have hx:=f.eval x
    cases hr:rho tm x <;> rw [hr] at hx <;> simp only [hr] at e <;> try cases e
    rename_i l
    cases hfs:fieldS X.T t fi with
    | none=>simp only [hfs] at e; cases e
    | some p =>
      obtain ⟨y,o⟩:=p
      simp only [hfs] at e
      obtain ⟨fs,fd,hd,hfd,rfl,hy⟩:=fieldS_ok hT hfs
      cases hp:partS y l fd.offset with
      | none=>simp only [hp] at e; cases e
      | some z =>
        simp only [hp] at e
        cases e
        simp only [R] at hx
        obtain ⟨cs,hx,hl⟩:=hx
        obtain ⟨u,hu,hrun⟩:=part_ok hT hy hp hl
        exact ⟨u,hu,.inl fun w=>by simp [execOp,hx,Instr.field,und_run hd,hfd,asAgg,hrun]⟩
  case typeAssert x xt as ok =>
    have hx:=f.eval x
    cases hr:rho tm x <;> rw [hr] at hx <;> simp only [hr] at e <;> try cases e
    rename_i t uu
    cases hs:X.T.ty.get as with
    | none=>simp only [hs] at e; cases e
    | some y =>
      obtain ⟨d1,i1,hd1,hi1,hs1,hu1⟩:=typ_some hT hs
      simp only [hs] at e
      simp only [R] at hx
      obtain ⟨z,hx,hz⟩:=hx
      have hne:(∃ ms,d1=.interface ms)→False:=by
        rintro ⟨ms,rfl⟩
        cases hund:y.und <;> rw [hund] at hu1 <;> simp only [hund] at e <;> simp [UDok] at hu1 <;> cases e
      have e2:(bif Nat.beq t as then some (bif ok then .tup [uu,.tt] else uu) else none)=some v:=by
        cases hund:y.und <;> simp only [hund] at e <;> first | exact e | cases e
      cases ht:Nat.beq t as with
      | false=>simp only [ht,cond_false] at e2; cases e2
      | true =>
        have:=nbeq ht
        subst this
        simp only [ht,cond_true] at e2
        cases e2
        have hrun:∀ w,(Instr.typeAssert (.iface t z) xt t ok).run X.P w=.ok (if ok then .tuple #[z,.bool true] else z) w:=fun w=>by
          unfold Instr.typeAssert
          rw [Sem.run_bind,und_run hd1,Result.andThen_ok]
          cases d1 <;> first | exact (hne ⟨_,rfl⟩).elim | simp
        cases ok with
        | true=>exact ⟨.tuple #[z,.bool true],by simp only [R,cond_true]; exact ⟨#[z,.bool true],rfl,by simp [RL,R,hz]⟩,.inl fun w=>by simpa [execOp,hx] using v_run (hrun w)⟩
        | false=>exact ⟨_,hz,.inl fun w=>by simpa [execOp,hx] using v_run (hrun w)⟩
  case index t x ix =>
    cases hs:X.T.ty.get t with
    | none=>simp only [hs] at e; cases e
    | some y =>
      obtain ⟨d1,i1,hd1,hi1,hs1,hu1⟩:=typ_some hT hs
      simp only [hs] at e
      cases hund:y.und <;> simp only [hund] at e <;> try cases e
      rename_i n el
      rw [hund] at hu1
      cases d1 <;> simp [UDok] at hu1
      rename_i n1 el1
      obtain ⟨hn1,hn2⟩:=hu1
      subst hn1 hn2
      have hx:=f.eval x
      cases hr:rho tm x <;> rw [hr] at hx <;> simp only [hr] at e <;> try cases e
      rename_i l
      cases hc:cstN st (rho tm ix) with
      | none=>simp only [hc] at e; cases e
      | some k =>
        cases hel:X.T.ty.get el1 with
        | none=>simp only [hc,hel] at e; cases e
        | some ye =>
          obtain ⟨d2,i2,hd2,hi2,hs2,hu2⟩:=typ_some hT hel
          simp only [hc,hel] at e
          cases hlt:Nat.blt k n1 with
          | false=>simp only [hlt,cond_false] at e; cases e
          | true =>
            have hk:k<n1:=Nat.le_of_ble_eq_true hlt
            simp only [hlt,cond_true] at e
            cases hp:partS ye l (k*ye.size) with
            | none=>simp only [hp] at e; cases e
            | some z =>
              simp only [hp] at e
              cases e
              simp only [R] at hx
              obtain ⟨cs,hx,hl⟩:=hx
              obtain ⟨u,hu,hrun⟩:=part_ok hT hel hp hl
              obtain ⟨kk,hik⟩:=cstN_ok g hc (f.eval ix)
              exact ⟨u,hu,.inl fun w=>by simp [execOp,hx,hik,Instr.index,asIntOf,und_run hd1,hk,size_run hi2,hs2,hrun]⟩
  case indexAddr t x ix =>
    cases hs:X.T.ty.get t with
    | none=>simp only [hs] at e; cases e
    | some y =>
      obtain ⟨d1,i1,hd1,hi1,hs1,hu1⟩:=typ_some hT hs
      simp only [hs] at e
      have hx:=f.eval x
      cases hund:y.und <;> simp only [hund] at e <;> try cases e
      · rename_i el
        rw [hund] at hu1
        cases d1 <;> simp [UDok] at hu1
        rename_i el1
        subst hu1
        cases hr:rho tm x <;> rw [hr] at hx <;> simp only [hr] at e <;> try cases e
        · rename_i b off len cap
          cases hc:cstN st (rho tm ix) with
          | none=>simp only [hc] at e; cases e
          | some k =>
            cases hel:X.T.ty.get el1 with
            | none=>simp only [hc,hel] at e; cases e
            | some ye =>
              obtain ⟨d2,i2,hd2,hi2,hs2,hu2⟩:=typ_some hT hel
              simp only [hc,hel] at e
              cases hlt:Nat.blt k len with
              | false=>simp only [hlt,cond_false] at e; cases e
              | true =>
                have hk:k<len:=Nat.le_of_ble_eq_true hlt
                simp only [hlt,cond_true] at e
                cases e
                simp only [R] at hx
                obtain ⟨n,hn,hx⟩:=hx
                obtain ⟨kk,hik⟩:=cstN_ok g hc (f.eval ix)
                refine ⟨.pointer (some ⟨n,off+k*ye.size,none⟩),by simp only [R]; exact ⟨n,hn,rfl⟩,.inl fun w=>?_⟩
                have:=idx_sl (P:=X.P) (p:=⟨n,off,none⟩) (k:=kk) (c:=cap) hd1 hi2 hk w
                rw [add_none,hs2] at this
                simpa [execOp,hx,hik] using v_run this
        · rename_i s
          cases hl:lk st.sls s with
          | none=>simp only [hl] at e; cases e
          | some si =>
            have hsl:=g.sls s si hl
            simp only [R] at hx
            obtain ⟨base,ln,cp,hE,hx⟩:=hx
            cases si <;> simp only [hl] at e <;> try cases e
            · rename_i len
              cases hri:rngI st len with
              | none=>simp only [hri] at e; cases e
              | some p =>
                obtain ⟨lo,hi⟩:=p
                cases hrx:rng st (rho tm ix) with
                | none=>simp only [hri,hrx] at e; cases e
                | some q =>
                  obtain ⟨kk,qa,qb⟩:=q
                  cases hel:X.T.ty.get el1 with
                  | none=>simp only [hri,hrx,hel] at e; cases e
                  | some ye =>
                    obtain ⟨d2,i2,hd2,hi2,hs2,hu2⟩:=typ_some hT hel
                    simp only [hri,hrx,hel,cond_eq_ite,Bool.and_eq_true,decide_eq_true_eq] at e
                    split at e
                    · rename_i hc
                      cases e
                      have hsz:=nbeq hc.1
                      obtain ⟨z,hz,z1,z2⟩:=rng_ok g hrx (f.eval ix)
                      obtain ⟨base',ln',cp',hE',hsi,hlc,hbr,_⟩:=hsl
                      rw [hE] at hE'
                      cases hE'
                      have hb:=rngI_ok g hri hsi
                      cases base with
                      | none=>simp only [ByteRow] at hbr; omega
                      | some p =>
                        obtain ⟨hsp,_⟩:=hbr
                        obtain ⟨m,rfl⟩:∃ m:Nat,z=m:=⟨z.toNat,by omega⟩
                        refine ⟨.pointer (some ⟨p.block,p.off+m,none⟩),by simp only [R]; exact ⟨p,ln,cp,m,hE,hsp,by omega,rfl⟩,.inl fun w=>?_⟩
                        have:=idx_sl (P:=X.P) (p:=p) (k:=kk) (c:=cp) hd1 hi2 (show m<ln by omega) w
                        rw [add_spot hsp,hs2,hsz,Nat.mul_one] at this
                        simpa [execOp,hx,hz] using v_run this
                    · cases e
            · rename_i b len
              obtain ⟨n,cap,hb,hE'⟩:=hsl
              rw [hE] at hE'
              cases hE'
              cases hc:cstN st (rho tm ix) with
              | none=>simp only [hc] at e; cases e
              | some k =>
                cases hel:X.T.ty.get el1 with
                | none=>simp only [hc,hel] at e; cases e
                | some ye =>
                  obtain ⟨d2,i2,hd2,hi2,hs2,hu2⟩:=typ_some hT hel
                  simp only [hc,hel] at e
                  cases hlt:Nat.blt k ln with
                  | false=>simp only [hlt,cond_false] at e; cases e
                  | true =>
                    have hk:k<ln:=Nat.le_of_ble_eq_true hlt
                    simp only [hlt,cond_true] at e
                    cases e
                    obtain ⟨kk,hik⟩:=cstN_ok g hc (f.eval ix)
                    refine ⟨.pointer (some ⟨n,k*ye.size,none⟩),by simp only [R]; exact ⟨n,hb,rfl⟩,.inl fun w=>?_⟩
                    have:=idx_sl (P:=X.P) (p:=⟨n,0,none⟩) (k:=kk) (c:=cp) hd1 hi2 hk w
                    rw [add_none,hs2,Nat.zero_add] at this
                    simpa [execOp,hx,hik] using v_run this
      · rename_i nn el
        rw [hund] at hu1
        cases d1 <;> simp [UDok] at hu1
        rename_i n1 el1
        obtain ⟨hn1,hn2⟩:=hu1
        subst hn1 hn2
        cases hr:rho tm x <;> rw [hr] at hx <;> simp only [hr] at e <;> try cases e
        all_goals
          cases hc:cstN st (rho tm ix) with
          | none=>simp only [hc] at e; cases e
          | some k =>
            cases hel:X.T.ty.get el1 with
            | none=>simp only [hc,hel] at e; cases e
            | some ye =>
              obtain ⟨d2,i2,hd2,hi2,hs2,hu2⟩:=typ_some hT hel
              simp only [hc,hel] at e
              cases hlt:Nat.blt k n1 with
              | false=>simp only [hlt,cond_false] at e; cases e
              | true =>
                have hk:k<n1:=Nat.le_of_ble_eq_true hlt
                simp only [hlt,cond_true] at e
                cases e
                obtain ⟨kk,hik⟩:=cstN_ok g hc (f.eval ix)
                simp only [R] at hx
                first
                | (obtain ⟨n,hn,hx⟩:=hx
                   rename_i b off
                   refine ⟨.pointer (some ⟨n,off+k*ye.size,none⟩),by simp only [R]; exact ⟨n,hn,rfl⟩,.inl fun w=>?_⟩
                   have:=idx_arr (P:=X.P) (p:=⟨n,off,none⟩) (k:=kk) hd1 hi2 hk w
                   rw [add_none,hs2] at this
                   simpa [execOp,hx,hik] using v_run this)
                | (rename_i b off
                   refine ⟨.pointer (some ⟨b,off+k*ye.size,none⟩),by simp only [R],.inl fun w=>?_⟩
                   have:=idx_arr (P:=X.P) (p:=⟨b,off,none⟩) (k:=kk) hd1 hi2 hk w
                   rw [add_none,hs2] at this
                   simpa [execOp,hx,hik] using v_run this)
  case slice t x lo hi mx =>
    cases hs:X.T.ty.get t with
    | none=>simp only [hs] at e; cases e
    | some y =>
      obtain ⟨d1,i1,hd1,hi1,hs1,hu1⟩:=typ_some hT hs
      simp only [hs] at e
      have hx:=f.eval x
      cases hund:y.und <;> simp only [hund] at e <;> try cases e
      · rename_i el
        rw [hund] at hu1
        cases d1 <;> simp [UDok] at hu1
        rename_i el1
        subst hu1
        cases hr:rho tm x <;> rw [hr] at hx <;> simp only [hr] at e <;> try cases e
        rename_i b off len cap
        cases hel:X.T.ty.get el1 with
        | none=>simp only [hel] at e; cases e
        | some ye =>
          obtain ⟨d2,i2,hd2,hi2,hs2,hu2⟩:=typ_some hT hel
          simp only [hel] at e
          cases hsc:sliceC st b off len cap ye.size (optS tm lo) (optS tm hi) (optS tm mx) with
          | none=>simp only [hsc] at e; cases e
          | some v' =>
            simp only [hsc] at e
            cases e
            simp only [R] at hx
            obtain ⟨n,hn,hx⟩:=hx
            obtain ⟨l,h,m,rfl,hrun⟩:=sliceC_ok g f hn hsc
            refine ⟨.slice (some ⟨n,(if m=l then off else off+l*ye.size),none⟩) (h - l) (m - l),by simp only [R]; exact ⟨n,hn,rfl⟩,.inl fun w=>?_⟩
            have h2:(Instr.sliceAt t (.slice (some ⟨n,off,none⟩) len cap) (lo.map a.eval) (hi.map a.eval) (mx.map a.eval)).run X.P w =
                .ok (.slice (some ⟨n,(if m=l then off else off+l*ye.size),none⟩) (h - l) (m - l)) w:=by
              simp only [Instr.sliceAt,Instr.slice,Sem.run_bind,und_run hd1,Result.andThen_ok,hrun true w,size_run hi2,hs2,Sem.run_pure]
              by_cases hml:m=l
              · simp [hml]
              · simp [hml,add_none]
            simpa [execOp,hx] using v_run h2
      · rename_i nn el
        rw [hund] at hu1
        cases d1 <;> simp [UDok] at hu1
        rename_i n1 el1
        obtain ⟨hn1,hn2⟩:=hu1
        subst hn1 hn2
        cases hr:rho tm x <;> rw [hr] at hx <;> simp only [hr] at e <;> try cases e
        rename_i b off
        cases hel:X.T.ty.get el1 with
        | none=>simp only [hel] at e; cases e
        | some ye =>
          obtain ⟨d2,i2,hd2,hi2,hs2,hu2⟩:=typ_some hT hel
          simp only [hel] at e
          cases hsc:sliceC st b off n1 n1 ye.size (optS tm lo) (optS tm hi) (optS tm mx) with
          | none=>simp only [hsc] at e; cases e
          | some v' =>
            simp only [hsc] at e
            cases e
            simp only [R] at hx
            obtain ⟨n,hn,hx⟩:=hx
            obtain ⟨l,h,m,rfl,hrun⟩:=sliceC_ok g f hn hsc
            refine ⟨.slice (some ⟨n,(if m=l then off else off+l*ye.size),none⟩) (h - l) (m - l),by simp only [R]; exact ⟨n,hn,rfl⟩,.inl fun w=>?_⟩
            have h2:(Instr.sliceAt t (.pointer (some ⟨n,off,none⟩)) (lo.map a.eval) (hi.map a.eval) (mx.map a.eval)).run X.P w =
                .ok (.slice (some ⟨n,(if m=l then off else off+l*ye.size),none⟩) (h - l) (m - l)) w:=by
              simp only [Instr.sliceAt,Instr.sureAddr,Sem.run_bind,und_run hd1,Result.andThen_ok,hrun false w,size_run hi2,hs2,Sem.run_pure]
              by_cases hml:m=l
              · simp [hml]
              · simp [hml,add_none]
            simpa [execOp,hx] using v_run h2
  case call c =>
    obtain ⟨callee,args,ats⟩:=c
    cases callee <;> simp only at e <;> try cases e
    · rename_i fo
      cases fo <;> simp only at e <;> try cases e
      rename_i gg
      cases hpk:X.T.pkB gg with
      | false=>simp only [hpk,cond_false] at e; cases e
      | true =>
        simp only [hpk,cond_true,fL_eq] at e
        obtain ⟨fn,hfn⟩:=hP.fn gg hpk
        obtain ⟨x,hx,hcall⟩:=hP.ok gg _ st v hpk e own0 w0 E w g (args.map a.eval) (by simpa using f.evalL args.toList)
        refine ⟨x,hx,.inr ⟨gg,args.map a.eval,fun w=>?_,hcall⟩⟩
        have:=callv_run hT hfn a.eval (.func gg) args ats type #[] #[] rfl w
        simpa [execOp] using this
    · rename_i b
      obtain ⟨x,hx,hrun⟩:=builtP_ok (ty:=type) hT g e (vals:=args.map a.eval) (by simpa using f.evalL args.toList)
      exact ⟨x,hx,.inl fun w=>by simpa [execOp,resolve,invoke] using hrun _ w⟩
end SE
end
section
namespace SE
variable {X:Px} {own0:Nat→Prop} {w0 w:World} {E:Env} {st:St} {tm:TT} {a:Act}
def Env.upd (E:Env) (id:Nat) (x:EV):Env:=fun j=>if j=id then some x else E j
theorem Env.le_upd {E:Env} {id:Nat} {x:EV} (h:E id=none):E.le (E.upd id x):=fun j y hy=>by
  unfold Env.upd
  by_cases hj:j=id
  · subst hj; rw [h] at hy; cases hy
  · rw [if_neg hj]; exact hy
theorem Env.upd_self (E:Env) (id:Nat) (x:EV):E.upd id x id=some x:=by simp [Env.upd]
theorem Env.upd_ne (E:Env) {id j:Nat} (x:EV) (h:j≠id):E.upd id x j=E j:=by simp [Env.upd,h]
theorem BlkOk.mono {E E':Env} (h:E.le E') {w:World} {n:Nat} {b:Blk} (hb:BlkOk E w n b):BlkOk E' w n b:=by
  cases b with
  | cells e cs=>obtain ⟨vs,h1,h2⟩:=hb; exact ⟨vs,h1,h2.mono h⟩
  | row e sz sid cs=>obtain ⟨vs,len,cap,h1,h2,h3,h4,h5,h6⟩:=hb; exact ⟨vs,len,cap,h1,h _ _ h2,h3,h4,h5,h6.mono h⟩
  | map es=>obtain ⟨ms,c,h1,h2⟩:=hb; exact ⟨ms,c,h1,h2.mono h⟩
  | opq=>trivial
  | ro e cs=>obtain ⟨vs,h1,h2⟩:=hb; exact ⟨vs,h1,h2.mono h⟩
  | res nm xs args=>exact hb
theorem G.hid (g:G X own0 w0 E st w) {id:Nat} {blk:Blk} (hl:lk st.heap id=some blk):id<st.nid:=by
  rcases g.heap id blk hl with ⟨_,h,_⟩ | ⟨n,h,_⟩
  · exact h
  · apply Nat.lt_of_not_le
    intro hn
    rw [g.dom id hn] at h
    cases h
theorem G.hown (g:G X own0 w0 E st w) {id n:Nat} {blk:Blk} (hl:lk st.heap id=some blk) (hE:E id=some (.blk n)):n<w.heap.size∧(blk.isRo=true∨own0 n∨w0.heap.size≤n):=by
  rcases g.heap id blk hl with ⟨_,_,h⟩ | ⟨m,h1,h2,h3,_⟩
  · exact ⟨(h n hE).1,.inr (h n hE).2⟩
  · rw [hE] at h1
    cases h1
    exact ⟨h2,h3⟩
theorem G.mono (g:G X own0 w0 E st w) {E':Env} (he:E.le E') (hsame:∀ id,id<st.nid→E' id=E id) {nid:Nat} (hnid:st.nid≤nid) (hd:∀ id,nid≤id→E' id=none):G X own0 w0 E' { st with nid:=nid } w:=by
  have hne:∀ id blk m,lk st.heap id=some blk→E id≠some (.blk m)→E' id≠some (.blk m):=by
    intro id blk m hl hn hc
    rw [hsame id (g.hid hl)] at hc
    exact hn hc
  refine ⟨g.size,g.os,g.tape,g.output,g.frame,?_,?_,?_,?_,hd,?_,?_⟩
  · intro id blk hl
    rcases g.heap id blk hl with ⟨h0,h1,h2⟩ | ⟨n,h1,h2,h3,h4⟩
    · exact .inl ⟨h0,Nat.lt_of_lt_of_le h1 hnid,fun n hn=>h2 n (by rw [← hsame id h1]; exact hn)⟩
    · exact .inr ⟨n,he _ _ h1,h2,h3,h4.mono he⟩
  · intro id id' b b' n h1 h2 h3 h4
    rw [hsame id (g.hid h1)] at h3
    rw [hsame id' (g.hid h2)] at h4
    exact g.inj id id' b b' n h1 h2 h3 h4
  · intro id lo hi hl
    obtain ⟨z,h1,h2⟩:=g.tab id lo hi hl
    exact ⟨z,he _ _ h1,h2⟩
  · intro id i hl
    have:=g.sls id i hl
    cases i with
    | bytes len =>
      obtain ⟨base,ln,cap,h1,h2,h3,h4,h5⟩:=this
      exact ⟨base,ln,cap,he _ _ h1,h2.mono he,h3,h4,fun x hx=>⟨(h5 x hx).1,fun bid blk hb=>hne bid blk _ hb ((h5 x hx).2 bid blk hb)⟩⟩
    | row b len =>
      obtain ⟨n,cap,h1,h2⟩:=this
      exact ⟨n,cap,he _ _ h1,he _ _ h2⟩
    | own b nm args =>
      obtain ⟨h0,base,ln,cap,vs,h1,h2,h3,h4⟩:=this
      exact ⟨h0,base,ln,cap,vs,he _ _ h1,h2.mono he,fun x hx=>he _ _ (h3 x hx),h4⟩
  · intro gg cs hg
    obtain ⟨h1,h2,vs,e,fr,h3,h4⟩:=g.gl gg cs hg
    exact ⟨h1,fun id blk hl=>hne id blk _ hl (h2 id blk hl),vs,e,fr,h3,h4.mono he⟩
  · intro x hx
    obtain ⟨vs,h1,h2⟩:=g.facts x hx
    exact ⟨vs,h1.mono he,h2⟩
theorem G.addSl (g:G X own0 w0 E st w) {id:Nat} {i:SlI} (h:SlOk X E st w id i):G X own0 w0 E { st with sls:=(id,i)::st.sls } w:=by
  refine ⟨g.size,g.os,g.tape,g.output,g.frame,g.heap,g.inj,g.tab,?_,g.dom,g.gl,g.facts⟩
  intro id' i' hl
  rw [lk_cons] at hl
  split at hl
  · rename_i he
    subst he
    cases hl
    cases i <;> exact h
  · have:=g.sls id' i' hl
    cases i' <;> exact this
theorem G.nid_none (g:G X own0 w0 E st w):E st.nid=none:=g.dom _ (Nat.le_refl _)
theorem dom_upd (g:G X own0 w0 E st w) (x:EV):∀ id,st.nid+1≤id→(E.upd st.nid x) id=none:=fun id h=>by
  rw [Env.upd_ne _ _ (by omega)]
  exact g.dom id (by omega)
end SE
end
end Go.Proofs.YtdgejnakakjgfaaGreatDoor
