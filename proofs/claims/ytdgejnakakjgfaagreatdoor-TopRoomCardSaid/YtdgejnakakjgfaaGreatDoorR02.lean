/- The symbolic executor: every operation that only computes. The symbolic executor: worlds; names; loads. The symbolic executor: loads; blocks made and written. The symbolic executor: operations on memory. -/
import Derived.Test.YtdgejnakakjgfaaGreatDoorR01
import Derived.Laws.CopyRow
import Derived.Laws.Append
set_option linter.unusedVariables false
set_option linter.unusedSimpArgs false
set_option maxRecDepth 100000
namespace Go.Proofs.YtdgejnakakjgfaaGreatDoor
section
namespace SE
variable {X:Px} {own0:Nat→Prop} {w0 w:World} {E:Env} {st:St} {tm:TT} {a:Act}
theorem optC_ok (g:G X own0 w0 E st w) (f:FOk E tm a) {x:Option Operand} {n:Option Nat} (e:optC st (optS tm x)=some n) :
  (x.map a.eval)=none∧n=none∨∃ k m,x.map a.eval=some (.int k (m:Nat))∧n=some m:=by
 cases x with
 | none=>simp only [optS,optC] at e; cases e; exact .inl ⟨rfl,rfl⟩
 | some x =>
  simp only [optS,optC] at e
  cases hc:cstN st (rho tm x) with
  | none=>simp only [hc] at e; cases e
  | some m =>
   simp only [hc] at e
   cases e
   obtain ⟨k,hk⟩:=cstN_ok g hc (f.eval x)
   exact .inr ⟨k,m,by simp [hk],rfl⟩
theorem bound_run {P:Program} {k:IntKind} {m y:Nat} {c:BoundsCode} (h:m≤y) (w:World):(Instr.sliceBound (.int k (m:Nat)) y c).run P w=.ok m w:=by
 simp [Instr.sliceBound,asIntOf,h]
theorem bounds_run {P:Program} {isS:Bool} {len cap:Nat} {lo hi mx:Option Nat} {l h m:Nat} (e:boundsC len cap lo hi mx=some (l,h,m)) {vl vh vm:Option Value}
  (hl:vl=none∧lo=none∨∃ k n,vl=some (.int k (n:Nat))∧lo=some n) (hh:vh=none∧hi=none∨∃ k n,vh=some (.int k (n:Nat))∧hi=some n)
  (hm:vm=none∧mx=none∨∃ k n,vm=some (.int k (n:Nat))∧mx=some n) (w:World) :
  (Instr.sliceBounds isS len cap vl vh vm).run P w=.ok (l,h,m) w∧l≤h∧h≤m∧m≤cap:=by
 simp only [boundsC,cond_eq_ite,Bool.and_eq_true,Nat.ble_eq] at e
 split at e
 ·rename_i hc
  obtain ⟨⟨h1,h2,h3⟩,h4⟩:=hc
  simp only [Option.some.injEq,Prod.mk.injEq] at e
  obtain ⟨rfl,rfl,rfl⟩:=e
  refine ⟨?_,h3,h2,h1⟩
  rcases hm with ⟨rfl,rfl⟩ | ⟨k3,n3,rfl,rfl⟩
  ·rcases hh with ⟨rfl,rfl⟩ | ⟨k2,n2,rfl,rfl⟩ <;> rcases hl with ⟨rfl,rfl⟩ | ⟨k1,n1,rfl,rfl⟩ <;> simp at h1 h2 h3 <;> simp [Instr.sliceBounds,bound_run,h1,h2,h3]
  ·rcases hh with ⟨rfl,rfl⟩ | ⟨k2,n2,rfl,rfl⟩
   ·simp at h4
   ·rcases hl with ⟨rfl,rfl⟩ | ⟨k1,n1,rfl,rfl⟩ <;> simp at h1 h2 h3 <;> simp [Instr.sliceBounds,bound_run,h1,h2,h3]
 ·cases e
theorem foldMM_ok {P:Program} (g:G X own0 w0 E st w) (isMax:Bool):∀ {l:List SV} {vs:List Value} {k:IntKind} {lo hi z:Int} {r:SV},foldMM st isMax k lo hi l=some r→RL E l vs→lo≤z→z≤hi →
  ∃ x,R E r x∧∀ w,(vs.foldlM (if isMax then Builtin.max2 else Builtin.min2) (.int k z)).run P w=.ok x w
 | [],vs,k,lo,hi,z,r,e,h,h1,h2=>by
  simp only [foldMM] at e
  cases e
  rw [RL_nil.1 h]
  exact ⟨.int k z,by simp only [R,SIok]; exact ⟨z,⟨h1,h2⟩,rfl⟩,fun w=>rfl⟩
 | v::l,[],k,lo,hi,z,r,e,h,h1,h2=>by simp [RL] at h
 | v::l,u::vs,k,lo,hi,z,r,e,h,h1,h2=>by
  simp only [foldMM] at e
  cases hr:rng st v with
  | none=>simp only [hr] at e; cases e
  | some p =>
   obtain ⟨j,x,y⟩:=p
   simp only [hr] at e
   obtain ⟨q,rfl,q1,q2⟩:=rng_ok g hr (RL_cons.1 h).1
   cases hk:eqK j k with
   | false=>simp only [hk,cond_false] at e; cases e
   | true =>
    have:=eqK_iff hk
    subst this
    simp only [hk,cond_true] at e
    cases isMax with
    | true =>
     simp only [cond_true] at e
     have a1:=le_mx lo x
     have a2:=le_mx hi y
     obtain ⟨r',hr',hrun⟩:=foldMM_ok (P:=P) g true (z:=if q > z then q else z) e (RL_cons.1 h).2 (by split <;> omega) (by split <;> omega)
     exact ⟨r',hr',fun w=>by simp only [List.foldlM_cons,if_true,Builtin.max2,Sem.run_bind,Sem.run_pure,Result.andThen_ok]; exact hrun w⟩
    | false =>
     simp only [cond_false] at e
     have a1:=mn_le lo x
     have a2:=mn_le hi y
     obtain ⟨r',hr',hrun⟩:=foldMM_ok (P:=P) g false (z:=if q<z then q else z) e (RL_cons.1 h).2 (by split <;> omega) (by split <;> omega)
     exact ⟨r',hr',fun w=>by simp only [List.foldlM_cons,Builtin.min2,Bool.false_eq_true,if_false,Sem.run_bind,Sem.run_pure,Result.andThen_ok]; exact hrun w⟩
theorem lenS_ok (g:G X own0 w0 E st w) {x:SV} {v:Value} {l:SI} (e:lenS st x=some l) (h:R E x v):∃ b n c,v=.slice b n c∧SIok E l n:=by
 cases x <;> simp only [lenS] at e <;> try cases e
 case slc=>simp only [R] at h; obtain ⟨n,_,rfl⟩:=h; exact ⟨_,_,_,rfl,by simp [SIok]⟩
 case nils=>simp only [R] at h; exact ⟨_,_,_,h,by simp [SIok]⟩
 case sl i =>
  simp only [R] at h
  obtain ⟨b,n,c,hE,rfl⟩:=h
  cases hi:lk st.sls i with
  | none=>simp only [hi] at e; cases e
  | some s =>
   have hs:=g.sls i s hi
   cases s with
   | bytes l' =>
    simp only [hi] at e
    cases e
    obtain ⟨b',n',c',hE',hl,_⟩:=hs
    rw [hE] at hE'
    cases hE'
    exact ⟨_,_,_,rfl,hl⟩
   | row bb len =>
    simp only [hi] at e
    cases e
    obtain ⟨n',c',_,hE'⟩:=hs
    rw [hE] at hE'
    cases hE'
    exact ⟨_,_,_,rfl,by simp [SIok]⟩
   | own bb nm args=>simp only [hi] at e; cases e
theorem builtP_ok (hT:TabOk X) (g:G X own0 w0 E st w) {b:Builtin} {ats:Array TypeId} {ty:TypeId} {args:List SV} {vals:Array Value} {v:SV}
  (e:builtP X.T st b ats.toList args=some v) (h:RL E args vals.toList):∃ x,R E v x∧∀ (cn:Array Bool) w,(builtin b ats ty cn vals).run X.P w=.ok (.value x) w:=by
 obtain ⟨vals⟩:=vals
 obtain ⟨ats⟩:=ats
 simp only at e h
 unfold builtP at e
 split at e
 ·rename_i t x
  cases hty:X.T.ty.get t with
  | none=>simp only [hty] at e; cases e
  | some y =>
   obtain ⟨dd,i,hd,hi,hs',hb,hu,ha,hl,z,hz,hzr⟩:=hT.ty t y hty
   simp only [hty] at e
   match vals,h with
   | [u],h =>
    have hx:=(RL_cons.1 h).1
    cases hund:y.und <;> simp only [hund] at e <;> try cases e
    ·rename_i el
     rw [hund] at hu
     cases dd <;> simp [UDok] at hu
     cases hls:lenS st x with
     | none=>simp only [hls] at e; cases e
     | some l =>
      simp only [hls] at e
      cases e
      obtain ⟨b,n,c,rfl,hsi⟩:=lenS_ok g hls hx
      exact ⟨.int .i64 n,by simp only [R]; exact ⟨_,hsi,rfl⟩,fun cn w=>by simp [builtin,Builtin.len_,und_run hd,goInt]⟩
    ·rename_i n el
     rw [hund] at hu
     cases dd <;> simp [UDok] at hu
     obtain ⟨rfl,rfl⟩:=hu
     exact ⟨.int .i64 _,by simp only [R,SIok]; exact ⟨_,⟨Int.le_refl _,Int.le_refl _⟩,rfl⟩,fun cn w=>by simp [builtin,Builtin.len_,und_run hd,goInt]⟩
   | [],h=>simp [RL] at h
   | _::_::_,h=>simp [RL] at h
 ·rename_i x l
  cases hr:rng st x with
  | none=>simp only [hr] at e; cases e
  | some p =>
   obtain ⟨k,lo,hi⟩:=p
   simp only [hr] at e
   match vals,h with
   | [],h=>simp [RL] at h
   | u::us,h =>
    obtain ⟨z,rfl,z1,z2⟩:=rng_ok g hr (RL_cons.1 h).1
    obtain ⟨x',hx',hrun⟩:=foldMM_ok (P:=X.P) g true e (RL_cons.1 h).2 z1 z2
    exact ⟨x',hx',fun cn w=>by
     have h2:=hrun w
     simp only [if_true] at h2
     simp [builtin,Builtin.max_,h2]⟩
 ·rename_i x l
  cases hr:rng st x with
  | none=>simp only [hr] at e; cases e
  | some p =>
   obtain ⟨k,lo,hi⟩:=p
   simp only [hr] at e
   match vals,h with
   | [],h=>simp [RL] at h
   | u::us,h =>
    obtain ⟨z,rfl,z1,z2⟩:=rng_ok g hr (RL_cons.1 h).1
    obtain ⟨x',hx',hrun⟩:=foldMM_ok (P:=X.P) g false e (RL_cons.1 h).2 z1 z2
    exact ⟨x',hx',fun cn w=>by
     have h2:=hrun w
     simp only [Bool.false_eq_true,if_false] at h2
     simp [builtin,Builtin.min_,h2]⟩
 ·cases e
theorem typ_some (hT:TabOk X) {t:Nat} {y:TY} (h:X.T.ty.get t=some y):∃ d i,X.P.underlying t=some d∧X.P.info? t=some i∧i.size=y.size∧UDok y.und d:=by
 obtain ⟨d,i,hd,hi,hs',hb,hu,_⟩:=hT.ty t y h
 exact ⟨d,i,hd,hi,hs',hu⟩
theorem fieldPlace_run {P:Program} {n off:Nat} {f:Field} {i:TypeInfo} (hi:P.info? f.type=some i) (h:i.size≠0) (w:World):(fieldPlace ⟨n,off,none⟩ f).run P w=.ok ⟨n,off+f.offset,none⟩ w:=by
 simp [fieldPlace,size_run hi,h,add_none]
theorem sliceC_ok (g:G X own0 w0 E st w) (f:FOk E tm a) {b off len cap sz n:Nat} {lo hi mx:Option Operand} {v:SV} (hb:E b=some (.blk n)) (e:sliceC st b off len cap sz (optS tm lo) (optS tm hi) (optS tm mx)=some v) :
  ∃ l h m,v=.slc b (if m=l then off else off+l*sz) (h - l) (m - l)∧∀ isS w,(Instr.sliceBounds isS len cap (lo.map a.eval) (hi.map a.eval) (mx.map a.eval)).run X.P w=.ok (l,h,m) w:=by
 unfold sliceC at e
 cases h1:optC st (optS tm lo) with
 | none=>simp only [h1] at e; cases e
 | some q1 =>
  cases h2:optC st (optS tm hi) with
  | none=>simp only [h1,h2] at e; cases e
  | some q2 =>
   cases h3:optC st (optS tm mx) with
   | none=>simp only [h1,h2,h3] at e; cases e
   | some q3 =>
    simp only [h1,h2,h3] at e
    cases h4:boundsC len cap q1 q2 q3 with
    | none=>simp only [h4] at e; cases e
    | some p =>
     obtain ⟨l,h,m⟩:=p
     simp only [h4,Option.some.injEq] at e
     refine ⟨l,h,m,?_,fun isS w=>(bounds_run h4 (optC_ok g f h1) (optC_ok g f h2) (optC_ok g f h3) w).1⟩
     rw [← e]
     cases hm:Nat.beq m l with
     | true=>rw [if_pos (nbeq hm)]; rfl
     | false=>rw [if_neg (nbeq_false hm)]; rfl
theorem v_run {P:Program} {s:Sem Value} {x:Value} {w:World} (h:s.run P w=.ok x w):(do pure (Next.value (← s)):Sem Next).run P w=.ok (.value x) w:=by simp [h]
theorem idx_arr {P:Program} {t el n m:Nat} {p:Addr} {k:IntKind} {i:TypeInfo} (hd:P.underlying t=some (.array n el)) (hi:P.info? el=some i) (hm:m<n) (w:World) :
  (Instr.indexAt t (.pointer (some p)) (.int k (m:Nat))).run P w=.ok (.pointer (some (p.add (m*i.size)))) w:=by
 simp [Instr.indexAt,asIntOf,und_run hd,Instr.sureAddr,hm,size_run hi]
theorem idx_sl {P:Program} {t el n m c:Nat} {p:Addr} {k:IntKind} {i:TypeInfo} (hd:P.underlying t=some (.slice el)) (hi:P.info? el=some i) (hm:m<n) (w:World) :
  (Instr.indexAt t (.slice (some p) n c) (.int k (m:Nat))).run P w=.ok (.pointer (some (p.add (m*i.size)))) w:=by
 simp [Instr.indexAt,asIntOf,und_run hd,hm,size_run hi]
theorem pureOp_ok (hT:TabOk X) (hP:PkOk X) (g:G X own0 w0 E st w) (f:FOk E tm a) {o:Oper} {v:SV} (e:pureOp X.T tm st o.op=some v):∃ x,R E v x∧Yl X.P (execOp a.eval o) x:=by
 obtain ⟨dst,op,type,pos,after,guard⟩:=o
 cases op <;> simp only [pureOp] at e <;> try cases e
 case move x=>exact ⟨_,f.eval x,.inl fun w=>by simp [execOp]⟩
 case assign x=>exact ⟨_,f.eval x,.inl fun w=>by simp [execOp]⟩
 case pick c x y =>
  cases hb:evalB st (rho tm c) with
  | some b =>
   have hc:=evalB_ok g hb (f.eval c)
   simp only [hb] at e
   cases b <;> (simp only at e; cases e)
   ·exact ⟨_,f.eval y,.inl fun w=>by simp [execOp,hc,asBool]⟩
   ·exact ⟨_,f.eval x,.inl fun w=>by simp [execOp,hc,asBool]⟩
  | none =>
   simp only [hb,cond_eq_ite,Bool.and_eq_true] at e
   split at e
   ·rename_i hh
    cases e
    obtain ⟨b,hc⟩:=isB_ok hh.1 (f.eval c)
    obtain ⟨b1,h1⟩:=isB_ok hh.2.1 (f.eval x)
    obtain ⟨b2,h2⟩:=isB_ok hh.2.2 (f.eval y)
    exact ⟨.bool (if b then b1 else b2),by simp only [R]; exact ⟨_,rfl⟩,.inl fun w=>by cases b <;> simp [execOp,hc,asBool,h1,h2]⟩
   ·cases e
 case nilCheck x =>
  have hx:=f.eval x
  cases hr:rho tm x <;> rw [hr] at hx <;> simp only [hr] at e <;> try cases e
  ·simp only [R] at hx
   obtain ⟨n,hn,he⟩:=hx
   exact ⟨_,by simp only [R]; exact ⟨n,hn,rfl⟩,.inl fun w=>by simp [execOp,he]⟩
  ·simp only [R] at hx
   obtain ⟨p,l,c,h1,h2,he⟩:=hx
   exact ⟨_,by simp only [R]; exact ⟨p,l,c,h1,h2,rfl⟩,.inl fun w=>by simp [execOp,he]⟩
  ·simp only [R] at hx
   exact ⟨a.eval x,by simp only [R]; exact hx,.inl fun w=>by simp [execOp,hx]⟩
  ·rename_i fn fs cs
   cases fn <;> simp only at e <;> try cases e
   simp only [R] at hx
   obtain ⟨p,l,he,h1,h2⟩:=hx
   exact ⟨_,by simp only [R]; exact ⟨p,l,rfl,h1,h2⟩,.inl fun w=>by simp [execOp,he]⟩
 case binOp op t x y yt =>
  cases hb:binS X.T st op t (rho tm x) (rho tm y) with
  | none=>simp only [hb] at e; cases e
  | some r =>
   simp only [hb] at e
   cases e
   obtain ⟨z,hz,hrun⟩:=binS_ok hT g hb (f.eval x) (f.eval y) x y
   exact ⟨z,hz,.inl fun w=>by simpa [execOp] using v_run (hrun w)⟩
 case unOp op t x =>
  have hx:=f.eval x
  cases op <;> simp only [pureOp] at e
  case plus=>cases e
  case not =>
   cases hr:rho tm x <;> rw [hr] at hx e <;> simp only [notM] at e <;> try cases e
   ·simp only [R] at hx
    exact ⟨.bool false,by simp [R],.inl fun w=>by simp [execOp,hx,Op.unary]⟩
   ·simp only [R] at hx
    exact ⟨.bool true,by simp [R],.inl fun w=>by simp [execOp,hx,Op.unary]⟩
   ·simp only [R] at hx
    obtain ⟨b,hx⟩:=hx
    exact ⟨.bool (!b),by simp [R],.inl fun w=>by simp [execOp,hx,Op.unary]⟩
   ·simp only [R] at hx
    obtain ⟨z,hz,hx⟩:=hx
    exact ⟨.bool _,by simp only [R]; exact ⟨z,hz,rfl⟩,.inl fun w=>by simp [execOp,hx,Op.unary,cmpZ_neg]⟩
  case neg =>
   cases hr:rng st (rho tm x) with
   | none=>simp only [hr] at e; cases e
   | some p =>
    obtain ⟨k,lo,hi⟩:=p
    simp only [hr] at e
    cases e
    obtain ⟨z,hz,z1,z2⟩:=rng_ok g hr hx
    exact ⟨_,mk_ok (z:=0 - z) (by omega) (by omega),.inl fun w=>by simp [execOp,hz,Op.unary,Op.intArith]⟩
  case xor =>
   cases hr:rng st (rho tm x) with
   | none=>simp only [hr] at e; cases e
   | some p =>
    obtain ⟨k,lo,hi⟩:=p
    simp only [hr] at e
    cases e
    obtain ⟨z,hz,z1,z2⟩:=rng_ok g hr hx
    exact ⟨_,full_ok k _,.inl fun w=>by simp [execOp,hz,Op.unary,Op.intBits]; rfl⟩
 case convert s d x =>
  cases hs:X.T.ty.get s with
  | none=>simp only [hs] at e; cases e
  | some ys =>
   simp only [hs] at e
   obtain ⟨d1,i1,hd1,hi1,hs1,hu1⟩:=typ_some hT hs
   unfold convS at e
   cases hd:X.T.ty.get d with
   | none=>simp only [hd] at e; cases e
   | some yd =>
    obtain ⟨d2,i2,hd2,hi2,hs2,hu2⟩:=typ_some hT hd
    simp only [hd] at e
    cases hund:yd.und <;> simp only [hund] at e <;> try cases e
    rename_i k
    rw [hund] at hu2
    cases d2 <;> simp [UDok] at hu2
    have hu2':=hu2.symm
    subst hu2'
    have hx:=f.eval x
    cases hr:rho tm x <;> rw [hr] at hx <;> simp only [hr] at e <;> try cases e
    rename_i j i
    simp only [R] at hx
    obtain ⟨z,hz,hxe⟩:=hx
    cases hri:rngI st i with
    | none=>simp only [hri] at e; cases e
    | some p =>
     obtain ⟨lo,hi⟩:=p
     simp only [hri] at e
     obtain ⟨z1,z2⟩:=rngI_ok g hri hz
     have hrun:∀ w,(convert s d (.int j z)).run X.P w=.ok (.int k (k.wrap z)) w:=fun w=>by
      unfold convert
      rw [Sem.run_bind,und_run hd1,Result.andThen_ok,Sem.run_bind,und_run hd2,Result.andThen_ok]
      cases d1 <;> rfl
     cases hin:inK k lo hi with
     | true =>
      simp only [hin,cond_true] at e
      cases e
      simp only [inK,Bool.and_eq_true,decide_eq_true_eq] at hin
      refine ⟨.int k z,by simp only [R]; exact ⟨z,hz,rfl⟩,.inl fun w=>?_⟩
      have:=hrun w
      rw [wrap_in (by omega) (by omega)] at this
      simpa [execOp,hxe] using v_run this
     | false =>
      simp only [hin,cond_false] at e
      cases e
      exact ⟨_,full_ok k z,.inl fun w=>by simpa [execOp,hxe] using v_run (hrun w)⟩
 case sliceToArrayPointer t x =>
  cases hs:X.T.ty.get t with
  | none=>simp only [hs] at e; cases e
  | some y =>
   obtain ⟨d1,i1,hd1,hi1,hs1,hu1⟩:=typ_some hT hs
   simp only [hs] at e
   cases hund:y.und <;> simp only [hund] at e <;> try cases e
   rename_i n el
   rw [hund] at hu1
   cases d1 <;> simp [UDok] at hu1
   rename_i m1 el1
   obtain ⟨hn1,hn2⟩:=hu1
   have hx:=f.eval x
   cases hr:rho tm x <;> rw [hr] at hx <;> simp only [hr] at e <;> try cases e
   ·rename_i b off len cap
    simp only [cond_eq_ite,Nat.ble_eq] at e
    split at e
    ·rename_i hle
     cases e
     simp only [R] at hx
     obtain ⟨m,hm,hx⟩:=hx
     exact ⟨_,by simp only [R]; exact ⟨m,hm,rfl⟩,.inl fun w=>by simp [execOp,hx,Instr.arrayAt,und_run hd1,show ¬ len<m1 by omega]⟩
    ·cases e
   ·rename_i i
    cases hl:lk st.sls i with
    | none=>simp only [hl] at e; cases e
    | some s =>
     have hsl:=g.sls i s hl
     cases s <;> simp only [hl] at e <;> try cases e
     rename_i len
     cases hri:rngI st len with
     | none=>simp only [hri] at e; cases e
     | some p =>
      obtain ⟨lo,hi⟩:=p
      simp only [hri,cond_eq_ite,Bool.and_eq_true,decide_eq_true_eq] at e
      split at e
      ·rename_i hc
       cases e
       obtain ⟨base,ln,cp,hE,hsi,hlc,hbr,_⟩:=hsl
       have hz:=rngI_ok g hri hsi
       have hpos:0<n:=Nat.le_of_ble_eq_true hc.1
       have hc2:=hc.2
       simp only [Int.ofNat_eq_natCast] at hc2
       simp only [R] at hx
       obtain ⟨b',l',c',hE',hx⟩:=hx
       rw [hE] at hE'
       cases hE'
       cases base with
       | none=>simp only [ByteRow] at hbr; omega
       | some p =>
        obtain ⟨hsp,_⟩:=hbr
        exact ⟨_,by simp only [R]; exact ⟨p,_,_,hE,hsp,rfl⟩,.inl fun w=>by simp [execOp,hx,Instr.arrayAt,und_run hd1,show ¬ ln<m1 by omega]⟩
      ·cases e
 case makeInterface t x =>
  cases hs:X.T.ty.get t with
  | none=>simp only [hs] at e; cases e
  | some y =>
   obtain ⟨d1,i1,hd1,hi1,hs1,hu1⟩:=typ_some hT hs
   simp only [hs] at e
   have hx:=f.eval x
   have hrun:(∃ ms,d1=.interface ms)∨∀ w,(Instr.makeInterface t (a.eval x)).run X.P w=.ok (.iface t (a.eval x)) w:=by
    cases d1 <;> first | exact .inl ⟨_,rfl⟩ | exact .inr fun w=>by simp [Instr.makeInterface,und_run hd1]
   have hne:(∃ ms,d1=.interface ms)→False:=by
    rintro ⟨ms,rfl⟩
    cases hund:y.und <;> rw [hund] at hu1 <;> simp only [hund] at e <;> simp [UDok] at hu1 <;> cases e
   rcases hrun with h | h
   ·exact (hne h).elim
   ·have e2:v=.iface t (rho tm x):=by
     cases hund:y.und <;> simp only [hund] at e <;> cases e <;> rfl
    subst e2
    exact ⟨_,by simp only [R]; exact ⟨_,rfl,hx⟩,.inl fun w=>by simpa [execOp] using v_run (h w)⟩
 case makeFunc fn fs cs =>
  refine ⟨.func fn (fs.map a.eval) (cs.map a.eval),?_,.inl fun w=>by simp [execOp,Instr.makeFunc]⟩
  simp only [R]
  exact ⟨_,_,rfl,by simpa using f.evalL fs.toList,by simpa using f.evalL cs.toList⟩
 case extract x i =>
  have hx:=f.eval x
  cases hr:rho tm x <;> rw [hr] at hx <;> simp only [hr] at e <;> try cases e
  rename_i l
  cases hn:nth l i with
  | none=>simp only [hn] at e; cases e
  | some y =>
   simp only [hn] at e
   cases e
   simp only [R] at hx
   obtain ⟨cs,hx,hl⟩:=hx
   obtain ⟨u,hu,hru⟩:=RL_nth hl hn
   have hu':cs[i]?=some u:=by simpa using hu
   exact ⟨u,hru,.inl fun w=>by simp [execOp,hx,Instr.extract,hu']⟩
 case build t ps =>
  cases hs:X.T.ty.get t with
  | none=>simp only [hs] at e; cases e
  | some y =>
   simp only [hs] at e
   cases hk:knownT X.T y.und with
   | false=>simp only [hk,cond_false] at e; cases e
   | true =>
    simp only [hk,cond_true] at e
    cases hf:fillS (placeS X.T y) y.zero (rhoP tm ps.toList) with
    | none=>simp only [hf] at e; cases e
    | some cs =>
     simp only [hf] at e
     cases e
     obtain ⟨x,hx,hrun⟩:=build_ok (E:=E) hT hs hk (pv:=ps.map fun p=>(p.1,a.eval p.2)) (by simpa using evalP f ps.toList) hf
     exact ⟨x,hx,.inl fun w=>by simpa [execOp] using v_run (hrun w)⟩
 case fieldAddr t x fi =>
  have hx:=f.eval x
  cases hr:rho tm x <;> rw [hr] at hx <;> simp only [hr] at e <;> try cases e
  rename_i b off
  cases hfs:fieldS X.T t fi with
  | none=>simp only [hfs] at e; cases e
  | some p =>
   obtain ⟨y,o⟩:=p
   simp only [hfs] at e
   obtain ⟨fs,fd,hd,hfd,rfl,hy⟩:=fieldS_ok hT hfs
   obtain ⟨d1,i1,hd1,hi1,hs1,hu1⟩:=typ_some hT hy
   cases hz:Nat.beq y.size 0 with
   | true=>simp only [hz,cond_true] at e; cases e
   | false =>
    simp only [hz,cond_false] at e
    cases e
    have hne:=nbeq_false hz
    simp only [R] at hx
    obtain ⟨n,hn,hx⟩:=hx
    exact ⟨_,by simp only [R]; exact ⟨n,hn,rfl⟩,.inl fun w=>by
     simp [execOp,hx,Instr.fieldAt,und_run hd,hfd,Instr.sureAddr,fieldPlace_run hi1 (by omega)]⟩
 case field t x fi =>
  have hx:=f.eval x
  cases hr:rho tm x <;> rw [hr] at hx <;> simp only [hr] at e <;> try cases e
  rename_i l
  cases hfs:fieldS X.T t fi with
  | none=>simp only [hfs] at e; cases e
  | some p =>
   obtain ⟨y,o⟩:=p
   simp only [hfs] at e
   obtain ⟨fs,fd,hd,hfd,rfl,hy⟩:=fieldS_ok hT hfs
   cases hp:partS y l fd.offset with
   | none=>simp only [hp] at e; cases e
   | some z =>
    simp only [hp] at e
    cases e
    simp only [R] at hx
    obtain ⟨cs,hx,hl⟩:=hx
    obtain ⟨u,hu,hrun⟩:=part_ok hT hy hp hl
    exact ⟨u,hu,.inl fun w=>by simp [execOp,hx,Instr.field,und_run hd,hfd,asAgg,hrun]⟩
 case typeAssert x xt as ok =>
  have hx:=f.eval x
  cases hr:rho tm x <;> rw [hr] at hx <;> simp only [hr] at e <;> try cases e
  rename_i t uu
  cases hs:X.T.ty.get as with
  | none=>simp only [hs] at e; cases e
  | some y =>
   obtain ⟨d1,i1,hd1,hi1,hs1,hu1⟩:=typ_some hT hs
   simp only [hs] at e
   simp only [R] at hx
   obtain ⟨z,hx,hz⟩:=hx
   have hne:(∃ ms,d1=.interface ms)→False:=by
    rintro ⟨ms,rfl⟩
    cases hund:y.und <;> rw [hund] at hu1 <;> simp only [hund] at e <;> simp [UDok] at hu1 <;> cases e
   have e2:(bif Nat.beq t as then some (bif ok then .tup [uu,.tt] else uu) else none)=some v:=by
    cases hund:y.und <;> simp only [hund] at e <;> first | exact e | cases e
   cases ht:Nat.beq t as with
   | false=>simp only [ht,cond_false] at e2; cases e2
   | true =>
    have:=nbeq ht
    subst this
    simp only [ht,cond_true] at e2
    cases e2
    have hrun:∀ w,(Instr.typeAssert (.iface t z) xt t ok).run X.P w=.ok (if ok then .tuple #[z,.bool true] else z) w:=fun w=>by
     unfold Instr.typeAssert
     rw [Sem.run_bind,und_run hd1,Result.andThen_ok]
     cases d1 <;> first | exact (hne ⟨_,rfl⟩).elim | simp
    cases ok with
    | true=>exact ⟨.tuple #[z,.bool true],by simp only [R,cond_true]; exact ⟨#[z,.bool true],rfl,by simp [RL,R,hz]⟩,.inl fun w=>by simpa [execOp,hx] using v_run (hrun w)⟩
    | false=>exact ⟨_,hz,.inl fun w=>by simpa [execOp,hx] using v_run (hrun w)⟩
 case index t x ix =>
  cases hs:X.T.ty.get t with
  | none=>simp only [hs] at e; cases e
  | some y =>
   obtain ⟨d1,i1,hd1,hi1,hs1,hu1⟩:=typ_some hT hs
   simp only [hs] at e
   cases hund:y.und <;> simp only [hund] at e <;> try cases e
   rename_i n el
   rw [hund] at hu1
   cases d1 <;> simp [UDok] at hu1
   rename_i n1 el1
   obtain ⟨hn1,hn2⟩:=hu1
   subst hn1 hn2
   have hx:=f.eval x
   cases hr:rho tm x <;> rw [hr] at hx <;> simp only [hr] at e <;> try cases e
   rename_i l
   cases hc:cstN st (rho tm ix) with
   | none=>simp only [hc] at e; cases e
   | some k =>
    cases hel:X.T.ty.get el1 with
    | none=>simp only [hc,hel] at e; cases e
    | some ye =>
     obtain ⟨d2,i2,hd2,hi2,hs2,hu2⟩:=typ_some hT hel
     simp only [hc,hel] at e
     cases hlt:Nat.blt k n1 with
     | false=>simp only [hlt,cond_false] at e; cases e
     | true =>
      have hk:k<n1:=Nat.le_of_ble_eq_true hlt
      simp only [hlt,cond_true] at e
      cases hp:partS ye l (k*ye.size) with
      | none=>simp only [hp] at e; cases e
      | some z =>
       simp only [hp] at e
       cases e
       simp only [R] at hx
       obtain ⟨cs,hx,hl⟩:=hx
       obtain ⟨u,hu,hrun⟩:=part_ok hT hel hp hl
       obtain ⟨kk,hik⟩:=cstN_ok g hc (f.eval ix)
       exact ⟨u,hu,.inl fun w=>by simp [execOp,hx,hik,Instr.index,asIntOf,und_run hd1,hk,size_run hi2,hs2,hrun]⟩
 case indexAddr t x ix =>
  cases hs:X.T.ty.get t with
  | none=>simp only [hs] at e; cases e
  | some y =>
   obtain ⟨d1,i1,hd1,hi1,hs1,hu1⟩:=typ_some hT hs
   simp only [hs] at e
   have hx:=f.eval x
   cases hund:y.und <;> simp only [hund] at e <;> try cases e
   ·rename_i el
    rw [hund] at hu1
    cases d1 <;> simp [UDok] at hu1
    rename_i el1
    subst hu1
    cases hr:rho tm x <;> rw [hr] at hx <;> simp only [hr] at e <;> try cases e
    ·rename_i b off len cap
     cases hc:cstN st (rho tm ix) with
     | none=>simp only [hc] at e; cases e
     | some k =>
      cases hel:X.T.ty.get el1 with
      | none=>simp only [hc,hel] at e; cases e
      | some ye =>
       obtain ⟨d2,i2,hd2,hi2,hs2,hu2⟩:=typ_some hT hel
       simp only [hc,hel] at e
       cases hlt:Nat.blt k len with
       | false=>simp only [hlt,cond_false] at e; cases e
       | true =>
        have hk:k<len:=Nat.le_of_ble_eq_true hlt
        simp only [hlt,cond_true] at e
        cases e
        simp only [R] at hx
        obtain ⟨n,hn,hx⟩:=hx
        obtain ⟨kk,hik⟩:=cstN_ok g hc (f.eval ix)
        refine ⟨.pointer (some ⟨n,off+k*ye.size,none⟩),by simp only [R]; exact ⟨n,hn,rfl⟩,.inl fun w=>?_⟩
        have:=idx_sl (P:=X.P) (p:=⟨n,off,none⟩) (k:=kk) (c:=cap) hd1 hi2 hk w
        rw [add_none,hs2] at this
        simpa [execOp,hx,hik] using v_run this
    ·rename_i s
     cases hl:lk st.sls s with
     | none=>simp only [hl] at e; cases e
     | some si =>
      have hsl:=g.sls s si hl
      simp only [R] at hx
      obtain ⟨base,ln,cp,hE,hx⟩:=hx
      cases si <;> simp only [hl] at e <;> try cases e
      ·rename_i len
       cases hri:rngI st len with
       | none=>simp only [hri] at e; cases e
       | some p =>
        obtain ⟨lo,hi⟩:=p
        cases hrx:rng st (rho tm ix) with
        | none=>simp only [hri,hrx] at e; cases e
        | some q =>
         obtain ⟨kk,qa,qb⟩:=q
         cases hel:X.T.ty.get el1 with
         | none=>simp only [hri,hrx,hel] at e; cases e
         | some ye =>
          obtain ⟨d2,i2,hd2,hi2,hs2,hu2⟩:=typ_some hT hel
          simp only [hri,hrx,hel,cond_eq_ite,Bool.and_eq_true,decide_eq_true_eq] at e
          split at e
          ·rename_i hc
           cases e
           have hsz:=nbeq hc.1
           obtain ⟨z,hz,z1,z2⟩:=rng_ok g hrx (f.eval ix)
           obtain ⟨base',ln',cp',hE',hsi,hlc,hbr,_⟩:=hsl
           rw [hE] at hE'
           cases hE'
           have hb:=rngI_ok g hri hsi
           cases base with
           | none=>simp only [ByteRow] at hbr; omega
           | some p =>
            obtain ⟨hsp,_⟩:=hbr
            obtain ⟨m,rfl⟩:∃ m:Nat,z=m:=⟨z.toNat,by omega⟩
            refine ⟨.pointer (some ⟨p.block,p.off+m,none⟩),by simp only [R]; exact ⟨p,ln,cp,m,hE,hsp,by omega,rfl⟩,.inl fun w=>?_⟩
            have:=idx_sl (P:=X.P) (p:=p) (k:=kk) (c:=cp) hd1 hi2 (show m<ln by omega) w
            rw [add_spot hsp,hs2,hsz,Nat.mul_one] at this
            simpa [execOp,hx,hz] using v_run this
          ·cases e
      ·rename_i b len
       obtain ⟨n,cap,hb,hE'⟩:=hsl
       rw [hE] at hE'
       cases hE'
       cases hc:cstN st (rho tm ix) with
       | none=>simp only [hc] at e; cases e
       | some k =>
        cases hel:X.T.ty.get el1 with
        | none=>simp only [hc,hel] at e; cases e
        | some ye =>
         obtain ⟨d2,i2,hd2,hi2,hs2,hu2⟩:=typ_some hT hel
         simp only [hc,hel] at e
         cases hlt:Nat.blt k ln with
         | false=>simp only [hlt,cond_false] at e; cases e
         | true =>
          have hk:k<ln:=Nat.le_of_ble_eq_true hlt
          simp only [hlt,cond_true] at e
          cases e
          obtain ⟨kk,hik⟩:=cstN_ok g hc (f.eval ix)
          refine ⟨.pointer (some ⟨n,k*ye.size,none⟩),by simp only [R]; exact ⟨n,hb,rfl⟩,.inl fun w=>?_⟩
          have:=idx_sl (P:=X.P) (p:=⟨n,0,none⟩) (k:=kk) (c:=cp) hd1 hi2 hk w
          rw [add_none,hs2,Nat.zero_add] at this
          simpa [execOp,hx,hik] using v_run this
   ·rename_i nn el
    rw [hund] at hu1
    cases d1 <;> simp [UDok] at hu1
    rename_i n1 el1
    obtain ⟨hn1,hn2⟩:=hu1
    subst hn1 hn2
    cases hr:rho tm x <;> rw [hr] at hx <;> simp only [hr] at e <;> try cases e
    all_goals
     cases hc:cstN st (rho tm ix) with
     | none=>simp only [hc] at e; cases e
     | some k =>
      cases hel:X.T.ty.get el1 with
      | none=>simp only [hc,hel] at e; cases e
      | some ye =>
       obtain ⟨d2,i2,hd2,hi2,hs2,hu2⟩:=typ_some hT hel
       simp only [hc,hel] at e
       cases hlt:Nat.blt k n1 with
       | false=>simp only [hlt,cond_false] at e; cases e
       | true =>
        have hk:k<n1:=Nat.le_of_ble_eq_true hlt
        simp only [hlt,cond_true] at e
        cases e
        obtain ⟨kk,hik⟩:=cstN_ok g hc (f.eval ix)
        simp only [R] at hx
        first
        | (obtain ⟨n,hn,hx⟩:=hx
           rename_i b off
           refine ⟨.pointer (some ⟨n,off+k*ye.size,none⟩),by simp only [R]; exact ⟨n,hn,rfl⟩,.inl fun w=>?_⟩
           have:=idx_arr (P:=X.P) (p:=⟨n,off,none⟩) (k:=kk) hd1 hi2 hk w
           rw [add_none,hs2] at this
           simpa [execOp,hx,hik] using v_run this)
        | (rename_i b off
           refine ⟨.pointer (some ⟨b,off+k*ye.size,none⟩),by simp only [R],.inl fun w=>?_⟩
           have:=idx_arr (P:=X.P) (p:=⟨b,off,none⟩) (k:=kk) hd1 hi2 hk w
           rw [add_none,hs2] at this
           simpa [execOp,hx,hik] using v_run this)
 case slice t x lo hi mx =>
  cases hs:X.T.ty.get t with
  | none=>simp only [hs] at e; cases e
  | some y =>
   obtain ⟨d1,i1,hd1,hi1,hs1,hu1⟩:=typ_some hT hs
   simp only [hs] at e
   have hx:=f.eval x
   cases hund:y.und <;> simp only [hund] at e <;> try cases e
   ·rename_i el
    rw [hund] at hu1
    cases d1 <;> simp [UDok] at hu1
    rename_i el1
    subst hu1
    cases hr:rho tm x <;> rw [hr] at hx <;> simp only [hr] at e <;> try cases e
    rename_i b off len cap
    cases hel:X.T.ty.get el1 with
    | none=>simp only [hel] at e; cases e
    | some ye =>
     obtain ⟨d2,i2,hd2,hi2,hs2,hu2⟩:=typ_some hT hel
     simp only [hel] at e
     cases hsc:sliceC st b off len cap ye.size (optS tm lo) (optS tm hi) (optS tm mx) with
     | none=>simp only [hsc] at e; cases e
     | some v' =>
      simp only [hsc] at e
      cases e
      simp only [R] at hx
      obtain ⟨n,hn,hx⟩:=hx
      obtain ⟨l,h,m,rfl,hrun⟩:=sliceC_ok g f hn hsc
      refine ⟨.slice (some ⟨n,(if m=l then off else off+l*ye.size),none⟩) (h - l) (m - l),by simp only [R]; exact ⟨n,hn,rfl⟩,.inl fun w=>?_⟩
      have h2:(Instr.sliceAt t (.slice (some ⟨n,off,none⟩) len cap) (lo.map a.eval) (hi.map a.eval) (mx.map a.eval)).run X.P w =
        .ok (.slice (some ⟨n,(if m=l then off else off+l*ye.size),none⟩) (h - l) (m - l)) w:=by
       simp only [Instr.sliceAt,Instr.slice,Sem.run_bind,und_run hd1,Result.andThen_ok,hrun true w,size_run hi2,hs2,Sem.run_pure]
       by_cases hml:m=l
       ·simp [hml]
       ·simp [hml,add_none]
      simpa [execOp,hx] using v_run h2
   ·rename_i nn el
    rw [hund] at hu1
    cases d1 <;> simp [UDok] at hu1
    rename_i n1 el1
    obtain ⟨hn1,hn2⟩:=hu1
    subst hn1 hn2
    cases hr:rho tm x <;> rw [hr] at hx <;> simp only [hr] at e <;> try cases e
    rename_i b off
    cases hel:X.T.ty.get el1 with
    | none=>simp only [hel] at e; cases e
    | some ye =>
     obtain ⟨d2,i2,hd2,hi2,hs2,hu2⟩:=typ_some hT hel
     simp only [hel] at e
     cases hsc:sliceC st b off n1 n1 ye.size (optS tm lo) (optS tm hi) (optS tm mx) with
     | none=>simp only [hsc] at e; cases e
     | some v' =>
      simp only [hsc] at e
      cases e
      simp only [R] at hx
      obtain ⟨n,hn,hx⟩:=hx
      obtain ⟨l,h,m,rfl,hrun⟩:=sliceC_ok g f hn hsc
      refine ⟨.slice (some ⟨n,(if m=l then off else off+l*ye.size),none⟩) (h - l) (m - l),by simp only [R]; exact ⟨n,hn,rfl⟩,.inl fun w=>?_⟩
      have h2:(Instr.sliceAt t (.pointer (some ⟨n,off,none⟩)) (lo.map a.eval) (hi.map a.eval) (mx.map a.eval)).run X.P w =
        .ok (.slice (some ⟨n,(if m=l then off else off+l*ye.size),none⟩) (h - l) (m - l)) w:=by
       simp only [Instr.sliceAt,Instr.sureAddr,Sem.run_bind,und_run hd1,Result.andThen_ok,hrun false w,size_run hi2,hs2,Sem.run_pure]
       by_cases hml:m=l
       ·simp [hml]
       ·simp [hml,add_none]
      simpa [execOp,hx] using v_run h2
 case call c =>
  obtain ⟨callee,args,ats⟩:=c
  cases callee <;> simp only at e <;> try cases e
  ·rename_i fo
   cases fo <;> simp only at e <;> try cases e
   rename_i gg
   cases hpk:X.T.pkB gg with
   | false=>simp only [hpk,cond_false] at e; cases e
   | true =>
    simp only [hpk,cond_true,fL_eq] at e
    obtain ⟨fn,hfn⟩:=hP.fn gg hpk
    obtain ⟨x,hx,hcall⟩:=hP.ok gg _ st v hpk e own0 w0 E w g (args.map a.eval) (by simpa using f.evalL args.toList)
    refine ⟨x,hx,.inr ⟨gg,args.map a.eval,fun w=>?_,hcall⟩⟩
    have:=callv_run hT hfn a.eval (.func gg) args ats type #[] #[] rfl w
    simpa [execOp] using this
  ·rename_i b
   obtain ⟨x,hx,hrun⟩:=builtP_ok (ty:=type) hT g e (vals:=args.map a.eval) (by simpa using f.evalL args.toList)
   exact ⟨x,hx,.inl fun w=>by simpa [execOp,resolve,invoke] using hrun _ w⟩
end SE
end
section
namespace SE
variable {X:Px} {own0:Nat→Prop} {w0 w:World} {E:Env} {st:St} {tm:TT} {a:Act}
def Env.upd (E:Env) (id:Nat) (x:EV):Env:=fun j=>if j=id then some x else E j
theorem Env.le_upd {E:Env} {id:Nat} {x:EV} (h:E id=none):E.le (E.upd id x):=fun j y hy=>by
 unfold Env.upd
 by_cases hj:j=id
 ·subst hj; rw [h] at hy; cases hy
 ·rw [if_neg hj]; exact hy
theorem Env.upd_self (E:Env) (id:Nat) (x:EV):E.upd id x id=some x:=by simp [Env.upd]
theorem Env.upd_ne (E:Env) {id j:Nat} (x:EV) (h:j≠id):E.upd id x j=E j:=by simp [Env.upd,h]
theorem BlkOk.mono {E E':Env} (h:E.le E') {w:World} {n:Nat} {b:Blk} (hb:BlkOk E w n b):BlkOk E' w n b:=by
 cases b with
 | cells e cs=>obtain ⟨vs,h1,h2⟩:=hb; exact ⟨vs,h1,h2.mono h⟩
 | row e sz sid cs=>obtain ⟨vs,len,cap,h1,h2,h3,h4,h5,h6⟩:=hb; exact ⟨vs,len,cap,h1,h _ _ h2,h3,h4,h5,h6.mono h⟩
 | map es=>obtain ⟨ms,c,h1,h2⟩:=hb; exact ⟨ms,c,h1,h2.mono h⟩
 | opq=>trivial
 | ro e cs=>obtain ⟨vs,h1,h2⟩:=hb; exact ⟨vs,h1,h2.mono h⟩
 | res nm xs args=>exact hb
theorem G.hid (g:G X own0 w0 E st w) {id:Nat} {blk:Blk} (hl:lk st.heap id=some blk):id<st.nid:=by
 rcases g.heap id blk hl with ⟨_,h,_⟩ | ⟨n,h,_⟩
 ·exact h
 ·apply Nat.lt_of_not_le
  intro hn
  rw [g.dom id hn] at h
  cases h
theorem G.hown (g:G X own0 w0 E st w) {id n:Nat} {blk:Blk} (hl:lk st.heap id=some blk) (hE:E id=some (.blk n)):n<w.heap.size∧(blk.isRo=true∨own0 n∨w0.heap.size≤n):=by
 rcases g.heap id blk hl with ⟨_,_,h⟩ | ⟨m,h1,h2,h3,_⟩
 ·exact ⟨(h n hE).1,.inr (h n hE).2⟩
 ·rw [hE] at h1
  cases h1
  exact ⟨h2,h3⟩
theorem G.mono (g:G X own0 w0 E st w) {E':Env} (he:E.le E') (hsame:∀ id,id<st.nid→E' id=E id) {nid:Nat} (hnid:st.nid≤nid) (hd:∀ id,nid≤id→E' id=none):G X own0 w0 E' { st with nid:=nid } w:=by
 have hne:∀ id blk m,lk st.heap id=some blk→E id≠some (.blk m)→E' id≠some (.blk m):=by
  intro id blk m hl hn hc
  rw [hsame id (g.hid hl)] at hc
  exact hn hc
 refine ⟨g.size,g.os,g.tape,g.output,g.frame,?_,?_,?_,?_,hd,?_,?_⟩
 ·intro id blk hl
  rcases g.heap id blk hl with ⟨h0,h1,h2⟩ | ⟨n,h1,h2,h3,h4⟩
  ·exact .inl ⟨h0,Nat.lt_of_lt_of_le h1 hnid,fun n hn=>h2 n (by rw [← hsame id h1]; exact hn)⟩
  ·exact .inr ⟨n,he _ _ h1,h2,h3,h4.mono he⟩
 ·intro id id' b b' n h1 h2 h3 h4
  rw [hsame id (g.hid h1)] at h3
  rw [hsame id' (g.hid h2)] at h4
  exact g.inj id id' b b' n h1 h2 h3 h4
 ·intro id lo hi hl
  obtain ⟨z,h1,h2⟩:=g.tab id lo hi hl
  exact ⟨z,he _ _ h1,h2⟩
 ·intro id i hl
  have:=g.sls id i hl
  cases i with
  | bytes len =>
   obtain ⟨base,ln,cap,h1,h2,h3,h4,h5⟩:=this
   exact ⟨base,ln,cap,he _ _ h1,h2.mono he,h3,h4,fun x hx=>⟨(h5 x hx).1,fun bid blk hb=>hne bid blk _ hb ((h5 x hx).2 bid blk hb)⟩⟩
  | row b len =>
   obtain ⟨n,cap,h1,h2⟩:=this
   exact ⟨n,cap,he _ _ h1,he _ _ h2⟩
  | own b nm args =>
   obtain ⟨h0,base,ln,cap,vs,h1,h2,h3,h4⟩:=this
   exact ⟨h0,base,ln,cap,vs,he _ _ h1,h2.mono he,fun x hx=>he _ _ (h3 x hx),h4⟩
 ·intro gg cs hg
  obtain ⟨h1,h2,vs,e,fr,h3,h4⟩:=g.gl gg cs hg
  exact ⟨h1,fun id blk hl=>hne id blk _ hl (h2 id blk hl),vs,e,fr,h3,h4.mono he⟩
 ·intro x hx
  obtain ⟨vs,h1,h2⟩:=g.facts x hx
  exact ⟨vs,h1.mono he,h2⟩
theorem G.addSl (g:G X own0 w0 E st w) {id:Nat} {i:SlI} (h:SlOk X E st w id i):G X own0 w0 E { st with sls:=(id,i)::st.sls } w:=by
 refine ⟨g.size,g.os,g.tape,g.output,g.frame,g.heap,g.inj,g.tab,?_,g.dom,g.gl,g.facts⟩
 intro id' i' hl
 rw [lk_cons] at hl
 split at hl
 ·rename_i he
  subst he
  cases hl
  cases i <;> exact h
 ·have:=g.sls id' i' hl
  cases i' <;> exact this
theorem G.nid_none (g:G X own0 w0 E st w):E st.nid=none:=g.dom _ (Nat.le_refl _)
theorem dom_upd (g:G X own0 w0 E st w) (x:EV):∀ id,st.nid+1≤id→(E.upd st.nid x) id=none:=fun id h=>by
 rw [Env.upd_ne _ _ (by omega)]
 exact g.dom id (by omega)
end SE
end
section
namespace SE
variable {X:Px} {own0:Nat→Prop} {w0 w:World} {E:Env} {st:St} {tm:TT} {a:Act}
structure Ext0 (w w':World):Prop where
 size:w.heap.size≤w'.heap.size
 same:∀ n,n<w.heap.size→w'.heap[n]?=w.heap[n]?
theorem Ext0.refl (w:World):Ext0 w w:=⟨Nat.le_refl _,fun _ _=>rfl⟩
theorem Ext0.trans {a b c:World} (h:Ext0 a b) (k:Ext0 b c):Ext0 a c:=⟨Nat.le_trans h.size k.size,fun n hn=>(k.same n (Nat.lt_of_lt_of_le hn h.size)).trans (h.same n hn)⟩
theorem Ext0.some {w w':World} (h:Ext0 w w') {n:Nat} {o:Obj} (hn:w.heap[n]?=some o):w'.heap[n]?=some o:=by
 have:n<w.heap.size:=(Array.getElem?_eq_some_iff.1 hn).1
 rw [h.same n this,hn]
theorem ByteRow.ext {w w':World} {base:Option Addr} {ln:Nat} (h:Ext0 w w') (hb:ByteRow w base ln):ByteRow w' base ln:=by
 cases base with
 | none=>exact hb
 | some p =>
  obtain ⟨h1,vs,e,fr,h2,h3⟩:=hb
  exact ⟨h1,vs,e,fr,h.some h2,h3⟩
theorem BlkOk.ext {w w':World} {n:Nat} {b:Blk} (h:Ext0 w w') (hb:BlkOk E w n b):BlkOk E w' n b:=by
 cases b with
 | cells e cs=>obtain ⟨vs,h1,h2⟩:=hb; exact ⟨vs,h.some h1,h2⟩
 | row e sz sid cs=>obtain ⟨vs,len,cap,h1,h2⟩:=hb; exact ⟨vs,len,cap,h.some h1,h2⟩
 | map es=>obtain ⟨ms,c,h1,h2⟩:=hb; exact ⟨ms,c,h.some h1,h2⟩
 | opq=>trivial
 | ro e cs=>obtain ⟨vs,h1,h2⟩:=hb; exact ⟨vs,h.some h1,h2⟩
 | res nm xs args=>exact hb
theorem SlOk.ext {w w':World} {id:Nat} {i:SlI} (h:Ext0 w w') (hs:SlOk X E st w id i) (hown:∀ b n,lk st.heap b=some .opq→E b=some (.blk n)→n<w.heap.size):SlOk X E st w' id i:=by
 cases i with
 | bytes len =>
  obtain ⟨base,ln,cap,h1,h2,h3,h4,h5⟩:=hs
  exact ⟨base,ln,cap,h1,h2,h3,h4.ext h,fun x hx=>⟨Nat.lt_of_lt_of_le (h5 x hx).1 h.size,(h5 x hx).2⟩⟩
 | row b len=>exact hs
 | own b nm args =>
  obtain ⟨h0,base,ln,cap,vs,h1,h2,h3,h4⟩:=hs
  refine ⟨h0,base,ln,cap,vs,h1,h2,h3,?_⟩
  cases base with
  | none=>exact h4
  | some x =>
   simp only [Option.bind_some] at h4 ⊢
   rw [h.same _ (hown b _ h0 (h3 x rfl))]
   exact h4
theorem G.ext (g:G X own0 w0 E st w) {w':World} (h:Ext0 w w') (ho:w'.os=w.os) (ht:w'.tape=w.tape) (hu:w'.output=w.output):G X own0 w0 E st w':=by
 refine ⟨Nat.le_trans g.size h.size,ho.trans g.os,ht.trans g.tape,hu.trans g.output,?_,?_,g.inj,g.tab,?_,g.dom,?_,g.facts⟩
 ·intro n hn hown
  rw [h.same n (Nat.lt_of_lt_of_le hn g.size)]
  exact g.frame n hn hown
 ·intro id blk hl
  rcases g.heap id blk hl with ⟨h0,h1,h2⟩ | ⟨n,h1,h2,h3,h4⟩
  ·exact .inl ⟨h0,h1,fun n hn=>⟨Nat.lt_of_lt_of_le (h2 n hn).1 h.size,(h2 n hn).2⟩⟩
  ·exact .inr ⟨n,h1,Nat.lt_of_lt_of_le h2 h.size,h3,h4.ext h⟩
 ·intro id i hl
  exact (g.sls id i hl).ext h fun b n hb hE=>(g.hown hb hE).1
 ·intro gg cs hg
  obtain ⟨h1,h2,vs,e,fr,h3,h4⟩:=g.gl gg cs hg
  exact ⟨Nat.lt_of_lt_of_le h1 h.size,h2,vs,e,fr,h.some h3,h4⟩
theorem ext_alloc (w:World) (o:Obj):Ext0 w (w.alloc o):=⟨by simp,fun n hn=>heap_alloc_old w o n hn⟩
theorem ext_drew (w:World):Ext0 w w.drew:=⟨Nat.le_refl _,fun _ _=>rfl⟩
theorem G.drew (g:G X own0 w0 E st w):G X own0 w0 E st w.drew:=g.ext (ext_drew w) rfl rfl rfl
theorem G.newK (g:G X own0 w0 E st w) {nb:Blk} {o:Obj} (h:BlkOk (E.upd st.nid (.blk w.heap.size)) (w.alloc o) w.heap.size nb) :
  G X own0 w0 (E.upd st.nid (.blk w.heap.size)) { st with heap:=(st.nid,nb)::st.heap,nid:=st.nid+1 } (w.alloc o):=by
 have hle:=Env.le_upd (x:=EV.blk w.heap.size) g.nid_none
 have g1:=(g.ext (ext_alloc w o) rfl rfl rfl).mono hle (fun id hid=>Env.upd_ne _ _ (by omega)) (Nat.le_succ _) (dom_upd g _)
 have hne:∀ id blk n,lk st.heap id=some blk→E id=some (.blk n)→n<w.heap.size:=fun id blk n hl hE=>(g.hown hl hE).1
 have hnid:∀ id blk,lk st.heap id=some blk→id≠st.nid:=fun id blk hl he=>by
  have:=g.hid hl
  omega
 refine ⟨g1.size,g1.os,g1.tape,g1.output,g1.frame,?_,?_,g1.tab,?_,g1.dom,?_,g1.facts⟩
 ·intro id blk hl
  simp only [lk_cons] at hl
  split at hl
  ·rename_i he
   subst he
   cases hl
   exact .inr ⟨w.heap.size,Env.upd_self _ _ _,by simp,.inr (.inr g.size),h⟩
  ·exact g1.heap id blk hl
 ·intro id id' b b' n h1 h2 h3 h4
  simp only [lk_cons] at h1 h2
  split at h1
  ·rename_i he
   split at h2
   ·rename_i he'; rw [he,he']
   ·rw [he,Env.upd_self] at h3
    cases h3
    rw [Env.upd_ne _ _ (hnid _ _ h2)] at h4
    exact absurd (hne _ _ _ h2 h4) (Nat.lt_irrefl _)
  ·split at h2
   ·rename_i he'
    rw [he',Env.upd_self] at h4
    cases h4
    rw [Env.upd_ne _ _ (hnid _ _ h1)] at h3
    exact absurd (hne _ _ _ h1 h3) (Nat.lt_irrefl _)
   ·exact g1.inj id id' b b' n h1 h2 h3 h4
 ·intro id i hl
  have hs:=g1.sls id i hl
  cases i with
  | bytes len =>
   obtain ⟨base,ln,cap,k1,k2,k3,k4,k5⟩:=hs
   refine ⟨base,ln,cap,k1,k2,k3,k4,fun x hx=>⟨(k5 x hx).1,fun bid blk hb hc=>?_⟩⟩
   simp only [lk_cons] at hb
   split at hb
   ·rename_i he
    rw [he,Env.upd_self] at hc
    obtain ⟨base',ln',cap',k1',_,_,_,k5'⟩:=g.sls id _ hl
    have:=hle _ _ k1'
    rw [k1] at this
    cases this
    have:=(k5' x hx).1
    simp only [Option.some.injEq,EV.blk.injEq] at hc
    omega
   ·exact (k5 x hx).2 bid blk hb hc
  | row b len=>exact hs
  | own b nm args =>
   obtain ⟨h0,h1⟩:=hs
   refine ⟨?_,h1⟩
   simp only [lk_cons]
   rw [if_neg (hnid b _ h0)]
   exact h0
 ·intro gg cs' hg
  obtain ⟨k1,k2,k3⟩:=g1.gl gg cs' hg
  refine ⟨k1,fun id blk hl hc=>?_,k3⟩
  simp only [lk_cons] at hl
  split at hl
  ·rename_i he
   rw [he,Env.upd_self] at hc
   have:=(g.gl gg cs' hg).1
   cases hc
   omega
  ·exact k2 id blk hl hc
theorem G.newB (g:G X own0 w0 E st w) {e:Nat} {cs:List SV} {vs:Array Value} (h:RL E cs vs.toList) :
  G X own0 w0 (E.upd st.nid (.blk w.heap.size)) (newB st e cs) (w.alloc (.cells vs e)) :=
 g.newK (nb:=.cells e cs) ⟨vs,heap_alloc_new w _,h.mono (Env.le_upd (x:=EV.blk w.heap.size) g.nid_none)⟩
theorem G.setO (g:G X own0 w0 E st w) {id n:Nat} {b b':Blk} (hl:lk st.heap id=some b) (hw:b.wr=true) (hE:E id=some (.blk n)) {w':World} (hoth:∀ k,k≠n→w'.heap[k]?=w.heap[k]?) (hsz:w'.heap.size=w.heap.size)
  (ho:w'.os=w.os) (ht:w'.tape=w.tape) (hu:w'.output=w.output) (hb':BlkOk E w' n b'):G X own0 w0 E { st with heap:=upd st.heap id b' } w':=by
 have hown:own0 n∨w0.heap.size≤n:=by
  rcases (g.hown hl hE).2 with h | h
  ·cases b <;> simp [Blk.isRo,Blk.wr] at h hw
  ·exact h
 have hid:∀ id2 blk,lk (upd st.heap id b') id2=some blk→∃ blk',lk st.heap id2=some blk':=fun id2 blk h=>by
  rw [lk_upd] at h
  split at h
  ·rename_i he; subst he; exact ⟨b,hl⟩
  ·exact ⟨blk,h⟩
 refine ⟨by rw [hsz]; exact g.size,ho.trans g.os,ht.trans g.tape,hu.trans g.output,?_,?_,?_,g.tab,?_,g.dom,?_,g.facts⟩
 ·intro k hk hkown
  by_cases hkn:k=n
  ·subst hkn
   rcases hown with h | h
   ·exact absurd h hkown
   ·omega
  ·rw [hoth k hkn]
   exact g.frame k hk hkown
 ·intro id2 blk h
  rw [lk_upd] at h
  split at h
  ·rename_i he
   subst he
   cases h
   exact .inr ⟨n,hE,by rw [hsz]; exact (g.hown hl hE).1,.inr hown,hb'⟩
  ·rename_i hne
   rcases g.heap id2 blk h with ⟨h0,h1,h2⟩ | ⟨m,hm,h2,h3,h4⟩
   ·exact .inl ⟨h0,h1,fun n hn=>by rw [hsz]; exact h2 n hn⟩
   refine .inr ⟨m,hm,by rw [hsz]; exact h2,h3,?_⟩
   have hmn:m≠n:=fun hh=>by
    subst hh
    exact hne (g.inj _ _ _ _ _ h hl hm hE)
   cases blk with
   | cells e cs=>obtain ⟨us,k1,k2⟩:=h4; exact ⟨us,by rw [hoth m hmn]; exact k1,k2⟩
   | row e sz sid cs=>obtain ⟨us,len,cap,k1,k2⟩:=h4; exact ⟨us,len,cap,by rw [hoth m hmn]; exact k1,k2⟩
   | map es=>obtain ⟨ms,c,k1,k2⟩:=h4; exact ⟨ms,c,by rw [hoth m hmn]; exact k1,k2⟩
   | opq=>trivial
   | ro e cs=>obtain ⟨us,k1,k2⟩:=h4; exact ⟨us,by rw [hoth m hmn]; exact k1,k2⟩
   | res nm xs args=>exact h4
 ·intro i1 i2 b1 b2 m h1 h2 h3 h4
  obtain ⟨c1,h1'⟩:=hid i1 b1 h1
  obtain ⟨c2,h2'⟩:=hid i2 b2 h2
  exact g.inj i1 i2 c1 c2 m h1' h2' h3 h4
 ·intro i s hs
  have:=g.sls i s hs
  cases s with
  | bytes len =>
   obtain ⟨base,ln,cap,k1,k2,k3,k4,k5⟩:=this
   refine ⟨base,ln,cap,k1,k2,k3,?_,fun x hx=>⟨by rw [hsz]; exact (k5 x hx).1,fun bid blk hb=>?_⟩⟩
   ·cases base with
    | none=>exact k4
    | some p =>
     have hpn:p.block≠n:=fun hh=>(k5 p rfl).2 id b hl (by rw [hE,hh])
     obtain ⟨q1,us,e,fr,q2,q3⟩:=k4
     exact ⟨q1,us,e,fr,by rw [hoth _ hpn]; exact q2,q3⟩
   ·obtain ⟨c,hc⟩:=hid bid blk hb
    exact (k5 x hx).2 bid c hc
  | row b len=>exact this
  | own b0 nm args =>
   obtain ⟨h0,base,ln,cap,vs,h1,h2,h3,h4⟩:=this
   have hb0:b0≠id:=fun hh=>by subst hh; rw [hl] at h0; cases h0; cases hw
   refine ⟨by rw [lk_upd,if_neg hb0]; exact h0,base,ln,cap,vs,h1,h2,h3,?_⟩
   cases base with
   | none=>exact h4
   | some x =>
    simp only [Option.bind_some] at h4 ⊢
    rw [hoth _ (fun hh=>hb0 (g.inj b0 id _ _ n h0 hl (by rw [← hh]; exact h3 x rfl) hE))]
    exact h4
 ·intro gg cs' hg'
  obtain ⟨k1,k2,us,e,fr,k3,k4⟩:=g.gl gg cs' hg'
  have hgn:gg≠n:=fun hh=>k2 id b hl (by rw [hE,hh])
  exact ⟨by rw [hsz]; exact k1,fun i2 blk hb=>by obtain ⟨c,hc⟩:=hid i2 blk hb; exact k2 i2 c hc,us,e,fr,by rw [hoth _ hgn]; exact k3,k4⟩
theorem G.setRow (g:G X own0 w0 E st w) {id n:Nat} {b b':Blk} {e:Nat} {vs vs':Array Value} (hl:lk st.heap id=some b) (hw:b.wr=true) (hE:E id=some (.blk n)) (hg:w.heap[n]?=some (.cells vs e (0,0)))
  (hb':BlkOk E (w.setRow n vs') n b'):G X own0 w0 E { st with heap:=upd st.heap id b' } (w.setRow n vs') :=
 g.setO hl hw hE (fun k hk=>setRow_other w n k vs' hk) (by simp) rfl rfl rfl hb'
theorem cell_at {w:World} {n off:Nat} {vs:Array Value} {e:Nat} {fr:Nat×Nat} (h:w.heap[n]?=some (.cells vs e fr)):w.cell? ⟨n,off,none⟩=vs[off]?:=by
 simp [World.cell?,h]
theorem loadVar_ok (hT:TabOk X) {t:Nat} {y:TY} (hy:X.T.ty.get t=some y) {n off:Nat} {cs:List SV} {us:List Value} {v:SV} (e:partS y cs off=some v) (h:RL E cs us) :
  ∃ x,R E v x∧∀ w,(∀ j u,us[j]?=some u→w.cell? ⟨n,j,none⟩=some u)→(loadVar t ⟨n,off,none⟩).run X.P w=.ok x w:=by
 obtain ⟨d,i,hd,hi,hs,hu⟩:=typ_some hT hy
 unfold partS at e
 cases hagg:isAggT y.und with
 | true =>
  rw [hagg] at e
  simp only [cond_true] at e
  cases hm:cut off y.size cs with
  | none=>simp only [hm] at e; cases e
  | some m =>
   simp only [hm] at e
   cases e
   have hc:=RL_cut h hm
   refine ⟨.agg ((us.drop off).take y.size).toArray,by simp only [R]; exact ⟨_,rfl,by simpa using hc.1⟩,fun w hw=>?_⟩
   have hlen:((us.drop off).take y.size).length=y.size:=by
    rw [List.length_take,List.length_drop]
    have:=hc.2
    omega
   have hl:=run_loadCells_list (P:=X.P) w ⟨n,off,none⟩ ((us.drop off).take y.size) (fun j u hu=>by
    rw [add_none]
    apply hw
    rw [List.getElem?_take] at hu
    split at hu
    ·rwa [List.getElem?_drop] at hu
    ·cases hu)
   rw [hlen] at hl
   simp [loadVar,isAgg_run hd hu,hagg,size_run hi,hs,hl]
 | false =>
  rw [hagg] at e
  simp only [cond_false] at e
  obtain ⟨x,hx,hr⟩:=RL_nth h e
  refine ⟨x,hr,fun w hw=>?_⟩
  simp [loadVar,isAgg_run hd hu,hagg,hw off x hx]
theorem loadS_ok (hT:TabOk X) (g:G X own0 w0 E st w) {t:Nat} {x v:SV} {u:Value} (e:loadS X.T st t x=some v) (h:R E x u) :
  ∃ z,R E v z∧∀ w',Ext0 w w'→(Instr.loadAt t u).run X.P w'=.ok z w':=by
 unfold loadS at e
 cases hty:X.T.ty.get t with
 | none=>simp only [hty] at e; cases e
 | some y =>
  obtain ⟨d,i,hd,hi,hs,hu⟩:=typ_some hT hty
  simp only [hty] at e
  cases x <;> simp only at e <;> try cases e
  case ptr b off =>
   simp only [R] at h
   obtain ⟨n,hn,rfl⟩:=h
   cases hl:lk st.heap b with
   | none=>simp only [hl] at e; cases e
   | some blk =>
    rcases g.heap b blk hl with ⟨h0,_⟩ | ⟨m,hm,h2,h3,h4⟩
    ·subst h0; simp only [hl] at e; cases e
    rw [hn] at hm
    cases hm
    cases blk <;> simp only [hl] at e <;> try cases e
    ·rename_i el cs
     obtain ⟨vs,k1,k2⟩:=h4
     obtain ⟨z,hz,hrun⟩:=loadVar_ok (n:=n) hT hty e k2
     refine ⟨z,hz,fun w' hw=>?_⟩
     have:=hrun w' (fun j u' hu'=>by rw [cell_at (hw.some k1)]; simpa using hu')
     simpa [Instr.loadAt,Instr.sureAddr] using this
    rotate_left
    ·rename_i el cs
     obtain ⟨vs,k1,k2⟩:=h4
     obtain ⟨z,hz,hrun⟩:=loadVar_ok (n:=n) hT hty e k2
     refine ⟨z,hz,fun w' hw=>?_⟩
     have:=hrun w' (fun j u' hu'=>by rw [cell_at (hw.some k1)]; simpa using hu')
     simpa [Instr.loadAt,Instr.sureAddr] using this
    ·rename_i el sz sid cs
     obtain ⟨vs,len,cap,k1,k2,k3,k4,k5,k6⟩:=h4
     obtain ⟨z,hz,hrun⟩:=loadVar_ok (n:=n) hT hty e k6
     refine ⟨z,hz,fun w' hw=>?_⟩
     have:=hrun w' (fun j u' hu'=>by
      rw [cell_at (hw.some k1)]
      rw [List.getElem?_take] at hu'
      split at hu'
      ·simpa using hu'
      ·cases hu')
     simpa [Instr.loadAt,Instr.sureAddr] using this
  case sp id =>
   simp only [R] at h
   obtain ⟨p,ln,cp,hE,hsp,rfl⟩:=h
   cases hund:y.und <;> simp only [hund] at e <;> try cases e
   rename_i n el
   cases hl:lk st.sls id with
   | none=>simp only [hl] at e; cases e
   | some s =>
    have hsl:=g.sls id s hl
    cases s <;> simp only [hl] at e <;> try cases e
    rename_i len
    cases hri:rngI st len with
    | none=>simp only [hri] at e; cases e
    | some q =>
     obtain ⟨lo,hi'⟩:=q
     simp only [hri,cond_eq_ite,Bool.and_eq_true,decide_eq_true_eq] at e
     split at e
     ·rename_i hc
      cases e
      obtain ⟨base,ln',cap',hE',hsi,hlc,hbr,hst⟩:=hsl
      rw [hE] at hE'
      cases hE'
      have hb:=rngI_ok g hri hsi
      obtain ⟨_,vs,e,fr,q2,q3⟩:=hbr
      have hc2:=hc.2.1
      simp only [Int.ofNat_eq_natCast] at hc2
      have hsz:=nbeq hc.2.2
      have hex:∃ f:Nat→Int,∀ i,i<n→0≤f i∧f i≤255∧vs[p.off+i]?=some (.int .u8 (f i)):=by
       refine ⟨fun i=>match vs[p.off+i]? with | some (.int _ z)=>z | _=>0,fun i hi=>?_⟩
       obtain ⟨z,z1,z2,z3⟩:=q3 i (by omega)
       simp only [z3]
       exact ⟨z1,z2,trivial⟩
      obtain ⟨f,hf⟩:=hex
      have hrl:∀ m,m≤n→RL E (rep m byteCell) ((List.range' (n - m) m).map fun i=>Value.int .u8 (f i)):=by
       intro m
       induction m with
       | zero=>intro _; simp [rep,RL]
       | succ m ih =>
        intro hm
        simp only [rep,List.range'_succ,List.map_cons]
        have:=ih (by omega)
        rw [show n - m=n - (m+1)+1 by omega] at this
        refine RL_cons.2 ⟨?_,this⟩
        simp only [byteCell,R,SIok]
        have:=hf (n - (m+1)) (by omega)
        exact ⟨_,⟨this.1,this.2.1⟩,rfl⟩
      have hrl2:=hrl n (Nat.le_refl _)
      rw [Nat.sub_self] at hrl2
      refine ⟨.agg ((List.range' 0 n).map fun i=>Value.int .u8 (f i)).toArray,by simp only [R]; exact ⟨_,rfl,by simpa using hrl2⟩,fun w' hw=>?_⟩
      have hll:=run_loadCells_list (P:=X.P) w' p ((List.range' 0 n).map fun i=>Value.int .u8 (f i)) (fun j u hu=>by
       rw [add_spot hsp]
       simp only [List.getElem?_map,Option.map_eq_some_iff] at hu
       obtain ⟨q,hq,rfl⟩:=hu
       rw [List.getElem?_eq_some_iff] at hq
       obtain ⟨hj,hq⟩:=hq
       simp at hj hq
       subst hq
       rw [show (⟨p.block,p.off+j,none⟩:Addr)=⟨p.block,p.off+j,none⟩ from rfl,cell_at (hw.some q2)]
       exact (hf j hj).2.2)
      simp only [List.length_map,List.length_range'] at hll
      have hagg:isAggT y.und=true:=by rw [hund]; rfl
      simp [Instr.loadAt,Instr.sureAddr,loadVar,isAgg_run hd hu,hagg,size_run hi,hs,hsz,hll]
     ·cases e
  case sq id =>
   simp only [R] at h
   obtain ⟨p,ln,cp,ix,hE,hsp,hix,rfl⟩:=h
   cases hund:y.und <;> simp only [hund] at e <;> try cases e
   rename_i k
   cases k <;> simp only at e <;> try cases e
   cases hl:lk st.sls id with
   | none=>simp only [hl] at e; cases e
   | some s =>
    have hsl:=g.sls id s hl
    cases s <;> simp only [hl] at e <;> try cases e
    obtain ⟨base,ln',cap',hE',hsi,hlc,hbr,hst⟩:=hsl
    rw [hE] at hE'
    cases hE'
    obtain ⟨_,vs,el,fr,q2,q3⟩:=hbr
    obtain ⟨z,z1,z2,z3⟩:=q3 ix hix
    refine ⟨.int .u8 z,by simp only [byteCell,R,SIok]; exact ⟨z,⟨z1,z2⟩,rfl⟩,fun w' hw=>?_⟩
    have hagg:isAggT y.und=false:=by rw [hund]; rfl
    have hc:=cell_at (off:=p.off+ix) (hw.some q2)
    rw [z3] at hc
    simp [Instr.loadAt,Instr.sureAddr,loadVar,isAgg_run hd hu,hagg,hc]
  case gp gg off =>
   simp only [R] at h
   subst h
   cases hl:X.T.gl gg with
   | none=>simp only [hl] at e; cases e
   | some cs =>
    simp only [hl] at e
    obtain ⟨k1,k2,vs,el,fr,k3,k4⟩:=g.gl gg cs hl
    obtain ⟨z,hz,hrun⟩:=loadVar_ok (n:=gg) hT hty e k4
    refine ⟨z,hz,fun w' hw=>?_⟩
    have:=hrun w' (fun j u' hu'=>by rw [cell_at (hw.some k3)]; simpa using hu')
    simpa [Instr.loadAt,Instr.sureAddr] using this
theorem nameOp_ok (hT:TabOk X) (g:G X own0 w0 E st w) (f:FOk E tm a) {o:Oper} {v:SV} {st':St} (e:nameOp X.T tm st o.op=some (v,st')) :
  ∃ x E',E.le E'∧R E' v x∧Yl X.P (execOp a.eval o) x∧∀ w',G X own0 w0 E st w'→G X own0 w0 E' st' w':=by
 obtain ⟨dst,op,type,pos,after,guard⟩:=o
 cases op <;> simp only [nameOp] at e <;> try cases e
 rename_i t x lo hi mx
 cases hs:X.T.ty.get t with
 | none=>simp only [hs] at e; cases e
 | some y =>
  obtain ⟨d1,i1,hd1,hi1,hs1,hu1⟩:=typ_some hT hs
  simp only [hs] at e
  cases hund:y.und <;> simp only [hund] at e <;> try cases e
  rename_i el
  rw [hund] at hu1
  cases d1 <;> simp [UDok] at hu1
  rename_i el1
  subst hu1
  have hx:=f.eval x
  cases hr:rho tm x <;> rw [hr] at hx <;> simp only [hr] at e <;> try cases e
  rename_i s
  cases hl:lk st.sls s with
  | none=>simp only [hl] at e; cases e
  | some si =>
   have hsl:=g.sls s si hl
   cases si with
   | own b nm args=>simp only [hl] at e; cases mx <;> cases e
   | row b len =>
    simp only [hl] at e
    cases mx with
    | some q=>simp only at e; cases e
    | none =>
     simp only at e
     cases lo with
     | some q=>simp only at e; cases e
     | none =>
      cases hoc:optC st (optS tm hi) with
      | none=>simp only [hoc] at e; cases e
      | some oh =>
       cases oh with
       | none=>simp only [hoc] at e; cases e
       | some h =>
        cases hlb:lk st.heap b with
        | none=>simp only [hoc,hlb] at e; cases e
        | some blk =>
         cases hel:X.T.ty.get el1 with
         | none=>simp only [hoc,hlb,hel] at e; cases blk <;> cases e
         | some ye =>
          obtain ⟨d2,i2,hd2,hi2,hs2,hu2⟩:=typ_some hT hel
          cases blk <;> simp only [hoc,hlb,hel] at e <;> try cases e
          rename_i e2 sz sid cs
          cases hc:(Nat.beq sid s&&(Nat.beq sz ye.size&&Nat.ble h len)) with
          | false=>simp only [hc,cond_false] at e; cases e
          | true =>
           simp only [hc,cond_true] at e
           cases htk:takeL (h*sz) cs with
           | none=>simp only [htk] at e; cases e
           | some cs' =>
           simp only [htk] at e
           cases e
           simp only [Bool.and_eq_true] at hc
           have h1:=nbeq hc.1
           have h2:=nbeq hc.2.1
           have h3:=Nat.le_of_ble_eq_true hc.2.2
           subst h1
           obtain ⟨n,cp,hEb,hEs⟩:=hsl
           simp only [R] at hx
           obtain ⟨base,ln,cp',hE,hx⟩:=hx
           rw [hEs] at hE
           cases hE
           rcases g.heap b _ hlb with ⟨h0,_⟩ | ⟨n',hn',hb1,hb2,vs,len',cap',k1,k2,k3,k4,k5,k6⟩
           ·cases h0
           rw [hEb] at hn'
           cases hn'
           rw [hEs] at k2
           cases k2
           have hhi:∃ k,hi.map a.eval=some (.int k (h:Nat)):=by
            rcases optC_ok g f hoc with ⟨_,h9⟩ | ⟨k,m,h9,h10⟩
            ·cases h9
            ·cases h10; exact ⟨k,h9⟩
           obtain ⟨kk,hhi⟩:=hhi
           have hle:=Env.le_upd (x:=EV.sl (some ⟨n,0,none⟩) h cp) g.nid_none
           refine ⟨.slice (some ⟨n,0,none⟩) h cp,E.upd st.nid (.sl (some ⟨n,0,none⟩) h cp),hle,?_,.inl fun w=>?_,fun w' g'=>?_⟩
           ·simp only [R]
            exact ⟨_,_,_,Env.upd_self _ _ _,rfl⟩
           ·have hcap:h≤cp:=by omega
            have hrun:(Instr.sliceBounds true len cp none (hi.map a.eval) none).run X.P w=.ok (0,h,cp) w:=by
             simp [Instr.sliceBounds,hhi,bound_run,hcap]
            have h2:(Instr.sliceAt t (.slice (some ⟨n,0,none⟩) len cp) none (hi.map a.eval) none).run X.P w=.ok (.slice (some ⟨n,0,none⟩) h cp) w:=by
             simp only [Instr.sliceAt,Instr.slice,Sem.run_bind,und_run hd1,Result.andThen_ok,hrun,size_run hi2,Sem.run_pure]
             by_cases hz:cp=0
             ·subst hz; simp
             ·simp [hz,add_none]
            simpa [execOp,hx] using v_run h2
           ·rcases g'.heap b _ hlb with ⟨h0,_⟩ | ⟨n',hn',hb1,hb2,vs,len,cap2,k1,k2,k3,k4,k5,k6⟩
            ·cases h0
            rw [hEb] at hn'
            cases hn'
            rw [hEs] at k2
            cases k2
            have hlen:cs'.length=h*sz:=by
             have q1:=RL_length (RL_take k6 htk).1
             have q2:=(RL_take k6 htk).2
             have q3:=RL_length k6
             rw [List.length_take,List.length_take] at q1
             rw [List.length_take] at q3
             omega
            have g2:=g'.mono hle (fun id hid=>Env.upd_ne _ _ (by omega)) (Nat.le_succ _) (dom_upd g' _)
            have g3:=g2.setO (id:=b) (n:=n) (b:=.row e2 sz sid cs) (b':=.row e2 sz st.nid cs') hlb rfl (hle _ _ hEb) (w':=w') (fun k hk=>rfl) rfl rfl rfl rfl
             ⟨vs,h,cp,k1,Env.upd_self _ _ _,k3,hlen,by omega,by
              have:=(RL_take (k6.mono hle) htk).1
              rw [List.take_take,Nat.min_eq_left (RL_take k6 htk).2] at this
              rw [hlen]
              exact this⟩
            exact g3.addSl (id:=st.nid) (i:=.row b h) ⟨n,cp,hle _ _ hEb,Env.upd_self _ _ _⟩
   | bytes len =>
   simp only [hl] at e
   cases mx with
   | some q=>simp only at e; cases e
   | none =>
    simp only at e
    cases hsb:sliceB st len (optS tm lo) (optS tm hi) with
    | none=>simp only [hsb] at e; cases e
    | some l =>
     cases hel:X.T.ty.get el1 with
     | none=>simp only [hsb,hel] at e; cases e
     | some ye =>
      obtain ⟨d2,i2,hd2,hi2,hs2,hu2⟩:=typ_some hT hel
      simp only [hsb,hel,cond_eq_ite] at e
      split at e
      ·rename_i hsz
       have hsz:=nbeq hsz
       cases e
       simp only [R] at hx
       obtain ⟨base,ln,cp,hE,hx⟩:=hx
       obtain ⟨base',ln',cp',hE',hsi,hlc,hbr,hst⟩:=hsl
       rw [hE] at hE'
       cases hE'
       have hb:∃ L H:Nat,L≤H∧H≤ln∧SIok E l (H - L:Nat)∧∀ w,(Instr.sliceBounds true ln cp (lo.map a.eval) (hi.map a.eval) none).run X.P w=.ok (L,H,cp) w:=by
        unfold sliceB at hsb
        cases hri:rngI st len with
        | none=>simp only [hri] at hsb; cases hsb
        | some p =>
         obtain ⟨n1,n2⟩:=p
         have hn:=rngI_ok g hri hsi
         simp only [hri] at hsb
         have hup:∃ (h:SI) (h1 h2:Int) (H:Nat),upS st len n1 n2 (optS tm hi)=some (h,h1,h2)∧SIok E h (H:Int)∧h1≤H∧H≤h2∧H≤ln ∧
           ((hi.map a.eval=none∧H=ln)∨∃ k,hi.map a.eval=some (.int k (H:Nat))):=by
          cases hi with
          | none=>exact ⟨len,n1,n2,ln,rfl,hsi,hn.1,hn.2,Nat.le_refl _,.inl ⟨rfl,rfl⟩⟩
          | some q =>
           have hq:=f.eval q
           simp only [optS] at hsb ⊢
           cases hrq:rho tm q <;> rw [hrq] at hq <;> simp only [hrq,upS] at hsb <;> try cases hsb
           rename_i k x
           cases hrx:rngI st x with
           | none=>simp only [hrx] at hsb; cases hsb
           | some p =>
            obtain ⟨q1,q2⟩:=p
            simp only [upS,hrx] at hsb ⊢
            cases hc:(decide (0≤q1)&&decide (q2≤n1)) with
            | false=>simp only [hc,cond_false] at hsb; cases hsb
            | true =>
             simp only [Bool.and_eq_true,decide_eq_true_eq] at hc
             simp only [R] at hq
             obtain ⟨z,hz,hq⟩:=hq
             have hzb:=rngI_ok g hrx hz
             obtain ⟨m,rfl⟩:∃ m:Nat,z=m:=⟨z.toNat,by omega⟩
             exact ⟨x,q1,q2,m,by simp [hc.1,hc.2],hz,hzb.1,hzb.2,by omega,.inr ⟨k,by simp [hq]⟩⟩
         obtain ⟨h,h1,h2,H,hm,hH,hH1,hH2,hHl,hHr⟩:=hup
         simp only [hm] at hsb
         cases lo with
         | none =>
          simp only [optS] at hsb
          cases hsb
          refine ⟨0,H,Nat.zero_le _,hHl,by simpa using hH,fun w=>?_⟩
          have hcap:H≤cp:=by omega
          rcases hHr with ⟨h5,rfl⟩ | ⟨k5,h5⟩ <;> simp [Instr.sliceBounds,h5,bound_run,hcap]
         | some q =>
          have hq:=f.eval q
          simp only [optS] at hsb
          cases hrq:rng st (rho tm q) with
          | none=>simp only [hrq] at hsb; cases hsb
          | some p =>
           obtain ⟨k,q1,q2⟩:=p
           simp only [hrq,cond_eq_ite,Bool.and_eq_true,decide_eq_true_eq] at hsb
           split at hsb
           ·rename_i hc
            cases hsb
            obtain ⟨z,hz,z1,z2⟩:=rng_ok g hrq hq
            obtain ⟨m,rfl⟩:∃ m:Nat,z=m:=⟨z.toNat,by omega⟩
            refine ⟨m,H,by omega,hHl,by simp only [SIok]; omega,fun w=>?_⟩
            have hcap:H≤cp:=by omega
            have hmH:m≤H:=by omega
            rcases hHr with ⟨h5,rfl⟩ | ⟨k5,h5⟩ <;> simp [Instr.sliceBounds,h5,bound_run,hcap,hz,hmH]
           ·cases hsb
       obtain ⟨L,H,hLH,hHl,hSI,hrun⟩:=hb
       have hle:=Env.le_upd (x:=EV.sl (if cp=L then base else base.map (·.add L)) (H - L) (cp - L)) g.nid_none
       refine ⟨.slice (if cp=L then base else base.map (·.add L)) (H - L) (cp - L),E.upd st.nid (.sl (if cp=L then base else base.map (·.add L)) (H - L) (cp - L)),hle,?_,.inl fun w=>?_,fun w' g'=>?_⟩
       ·simp only [R]
        exact ⟨_,_,_,Env.upd_self _ _ _,rfl⟩
       ·have h2:(Instr.sliceAt t (.slice base ln cp) (lo.map a.eval) (hi.map a.eval) none).run X.P w=.ok (.slice (if cp=L then base else base.map (·.add L)) (H - L) (cp - L)) w:=by
         simp only [Instr.sliceAt,Instr.slice,Sem.run_bind,und_run hd1,Result.andThen_ok,hrun w,size_run hi2,hs2,hsz,Nat.mul_one,Sem.run_pure]
        simpa [execOp,hx] using v_run h2
       ·have hsl':=g'.sls s _ hl
        obtain ⟨base',ln',cp',hE',hsi',hlc',hbr',hst'⟩:=hsl'
        rw [hE] at hE'
        cases hE'
        have g2:=g'.mono hle (fun id hid=>Env.upd_ne _ _ (by omega)) (Nat.le_succ _) (dom_upd g' _)
        refine g2.addSl (id:=st.nid) (i:=.bytes l) ?_
        refine ⟨_,_,_,Env.upd_self _ _ _,hSI.mono hle,by omega,?_,?_⟩
        ·by_cases hcl:cp=L
         ·rw [if_pos hcl]
          have hz:H - L=0:=by omega
          rw [hz]
          cases base with
          | none=>rfl
          | some p =>
           obtain ⟨h1,vs,e,fr,h2,h3⟩:=hbr'
           exact ⟨h1,vs,e,fr,h2,fun i hi=>by omega⟩
         ·rw [if_neg hcl]
          cases base with
          | none=>simp only [ByteRow] at hbr' ⊢; simp only [Option.map_none]; omega
          | some p =>
           obtain ⟨h1,vs,e,fr,h2,h3⟩:=hbr'
           simp only [Option.map_some,ByteRow,add_spot h1]
           refine ⟨trivial,vs,e,fr,h2,fun i hi=>?_⟩
           obtain ⟨z,z1,z2,z3⟩:=h3 (L+i) (by omega)
           exact ⟨z,z1,z2,by rw [Nat.add_assoc]; exact z3⟩
        ·intro q hq
         have hblk:∃ p,base=some p∧q.block=p.block:=by
          by_cases hcl:cp=L
          ·rw [if_pos hcl] at hq; exact ⟨q,hq,rfl⟩
          ·rw [if_neg hcl] at hq
           cases base with
           | none=>simp at hq
           | some p =>
            simp only [Option.map_some,Option.some.injEq] at hq
            subst hq
            refine ⟨p,rfl,?_⟩
            unfold Addr.add
            split <;> rfl
         obtain ⟨p,hp,hqp⟩:=hblk
         obtain ⟨h1,h2⟩:=hst' p hp
         rw [hqp]
         refine ⟨h1,fun bid blk hb hc=>?_⟩
         have hi:=g'.hid hb
         rw [Env.upd_ne _ _ (by omega)] at hc
         exact h2 bid blk hb hc
      ·cases e
end SE
end
section
namespace SE
variable {X:Px} {own0:Nat→Prop} {w0 w:World} {E:Env} {st:St} {tm:TT} {a:Act}
theorem u_run {P:Program} {s:Sem Unit} {w w':World} (h:s.run P w=.ok () w'):(do s; pure Next.skip:Sem Next).run P w=.ok .skip w':=by simp [h]
theorem v_run2 {P:Program} {s:Sem Value} {x:Value} {w w':World} (h:s.run P w=.ok x w'):(do pure (Next.value (← s)):Sem Next).run P w=.ok (.value x) w':=by simp [h]
theorem storeS_ok (hT:TabOk X) (g:G X own0 w0 E st w) {t:Nat} {x v:SV} {u y:Value} {st':St} (e:storeS X.T st t x v=some st') (hx:R E x u) (hv:R E v y) :
  ∃ w',(Instr.storeAt t u y).run X.P w=.ok () w'∧G X own0 w0 E st' w':=by
 unfold storeS at e
 cases hty:X.T.ty.get t with
 | none=>simp only [hty] at e; cases e
 | some ty =>
  obtain ⟨d,i,hd,hi,hs,hu⟩:=typ_some hT hty
  cases x <;> simp only [hty] at e <;> try cases e
  rename_i b off
  cases hc:(Nat.beq (cellsOf v).length ty.size&&allCell (cellsOf v)) with
  | false=>simp only [hc,cond_false] at e; cases e
  | true =>
   simp only [hc,cond_true] at e
   simp only [Bool.and_eq_true] at hc
   have hlen:=nbeq hc.1
   have hcl:=RL_cells hv hc.2
   have hone:=allCell_one hcl hc.2
   have hl2:=RL_length hcl
   simp only [R] at hx
   obtain ⟨n,hn,rfl⟩:=hx
   cases hl:lk st.heap b with
   | none=>simp only [hl] at e; cases e
   | some blk =>
    rcases g.heap b blk hl with ⟨h0,_⟩ | ⟨m,hm,h2,h3,h4⟩
    ·subst h0; simp only [hl] at e; cases e
    rw [hn] at hm
    cases hm
    cases blk <;> simp only [hl] at e <;> try cases e
    ·rename_i el cs
     obtain ⟨vs,k1,k2⟩:=h4
     cases hsp:splice off cs (cellsOf v) with
     | none=>simp only [hsp] at e; cases e
     | some cs' =>
      simp only [hsp] at e
      cases e
      have hr:=RL_splice k2 hcl hsp
      have hst:=run_storeCells_at (P:=X.P) n off el y.cells.toList 0 vs w k1 (by have:=hr.2; simp at this ⊢; omega) hone
      refine ⟨_,?_,g.setRow hl rfl hn k1 (vs':=(vs.toList.take off++y.cells.toList++vs.toList.drop (off+y.cells.toList.length)).toArray) ⟨_,setRow_heap w n vs _ el _ k1,by simpa using hr.1⟩⟩
      have hsz:y.cells.size=i.size:=by simp at hl2; omega
      simp only [Instr.storeAt,Instr.sureAddr,storeVar,Sem.run_bind,Sem.run_pure,Result.andThen_ok,size_run hi]
      rw [if_neg (by simp [hsz])]
      exact hst
    ·rename_i el sz sid cs
     obtain ⟨vs,len,cap,k1,k3,k4,k5,k6,k7⟩:=h4
     cases hsp:splice off cs (cellsOf v) with
     | none=>simp only [hsp] at e; cases e
     | some cs' =>
      simp only [hsp] at e
      cases e
      have hr:=RL_splice k7 hcl hsp
      have hcsl:=RL_length k7
      have hle:cs.length≤vs.size:=by rw [k4,k5]; exact Nat.mul_le_mul_right _ k6
      have hl8:(vs.toList.take cs.length).length=cs.length:=by simp; omega
      have hfit:off+y.cells.toList.length≤cs.length:=by have:=hr.2; rw [hl8] at this; exact this
      have hst:=run_storeCells_at (P:=X.P) n off el y.cells.toList 0 vs w k1 (by simp at hfit ⊢; omega) hone
      have hcs':cs'.length=cs.length:=by
       have:=RL_length hr.1
       simp at this
       simp at hfit
       omega
      have hnew:(vs.toList.take cs.length).take off++y.cells.toList++(vs.toList.take cs.length).drop (off+y.cells.toList.length) =
        (vs.toList.take off++y.cells.toList++vs.toList.drop (off+y.cells.toList.length)).take cs'.length:=by
       rw [hcs',List.take_take,Nat.min_eq_left (by omega),List.take_append,List.take_append,List.drop_take]
       have q1:(vs.toList.take off).take cs.length=vs.toList.take off:=by rw [List.take_take,Nat.min_eq_right (by omega)]
       have q2:(vs.toList.take off).length=off:=by simp; simp at hfit; omega
       rw [q1,q2]
       have q3:y.cells.toList.take (cs.length - off)=y.cells.toList:=List.take_of_length_le (by omega)
       rw [q3]
       congr 2
       simp
       omega
      rw [hnew] at hr
      refine ⟨_,?_,g.setRow hl rfl hn k1 (vs':=(vs.toList.take off++y.cells.toList++vs.toList.drop (off+y.cells.toList.length)).toArray)
       ⟨_,len,cap,setRow_heap w n vs _ el _ k1,k3,?_,by rw [hcs']; exact k5,k6,by simpa using hr.1⟩⟩
      ·have hsz:y.cells.size=i.size:=by simp at hl2; omega
       simp only [Instr.storeAt,Instr.sureAddr,storeVar,Sem.run_bind,Sem.run_pure,Result.andThen_ok,size_run hi]
       rw [if_neg (by simp [hsz])]
       exact hst
      ·rw [← k4]
       simp
       simp at hfit
       omega
theorem alloc_run {P:Program} {t:Nat} {i:TypeInfo} {z:Value} (hi:P.info? t=some i) (hz:i.zero=some z) (w:World) :
  (Instr.alloc t true (.tuple #[])).run P w=.ok (.pointer (some ⟨w.heap.size,0,none⟩)) (w.alloc (.cells z.cells t)):=by
 simp [Instr.alloc,zero_run hi hz,newVar,newRow]
theorem box_run {P:Program} {t:Nat} {v:Value} (w:World):(Instr.box t v).run P w=.ok (.pointer (some ⟨w.heap.size,0,none⟩)) (w.alloc (.cells v.cells t)):=by
 simp [Instr.box,newVar,newRow]
theorem RL_repL {zs:List SV} {zc:Array Value} (h:RL E zs zc.toList):∀ n,RL E (repL n zs) ((List.range (n*zc.size)).map fun i=>zc[i % zc.size]!)
 | 0=>by simp [repL,RL]
 | n+1=>by
  have e0:(n+1)*zc.size=zc.size+n*zc.size:=by rw [Nat.add_mul,Nat.one_mul,Nat.add_comm]
  rw [e0,List.range_add,List.map_append]
  simp only [repL]
  refine RL_append ?_ ?_
  ·have:(List.range zc.size).map (fun i=>zc[i % zc.size]!)=zc.toList:=by
    apply List.ext_getElem?
    intro j
    by_cases hj:j<zc.size
    ·simp [hj,Nat.mod_eq_of_lt hj]
    ·simp [hj]
   rw [this]; exact h
  ·have:(List.map (fun x=>zc.size+x) (List.range (n*zc.size))).map (fun i=>zc[i % zc.size]!)=(List.range (n*zc.size)).map fun i=>zc[i % zc.size]!:=by
    rw [List.map_map]
    apply List.map_congr_left
    intro i _
    simp
   rw [this]
   exact RL_repL h n
theorem buildSlice_ok (hT:TabOk X) (g:G X own0 w0 E st w) {t e:Nat} {ty y:TY} (hty:X.T.ty.get t=some ty) (hund:ty.und=.slice e) (hy:X.T.ty.get e=some y) {len:Nat} {ps:List (Nat×SV)} {pv:Array (Nat×Value)} {cs:List SV}
  (hr:RP E ps pv.toList) (hl:len*y.size≤100000) (hpos:0<y.size) (hf:fillS (placeS X.T ty) (repL len y.zero) ps=some cs) :
  ∃ w' ,(Instr.buildSlice t len pv).run X.P w=.ok (.slice (some ⟨w.heap.size,0,none⟩) len len) w'∧G X own0 w0 (E.upd st.nid (.blk w.heap.size)) (newB st e cs) w':=by
 obtain ⟨d,i,hd,hi,hs,hu⟩:=typ_some hT hty
 obtain ⟨d2,i2,hd2,hi2,hs2,hb2,hu2,ha2,hl2,z,hz,hzr⟩:=hT.ty e y hy
 rw [hund] at hu
 cases d <;> simp [UDok] at hu
 rename_i e1
 subst hu
 have hzs:z.cells.size=y.size:=by have:=RL_length (hzr E); simp at this; omega
 have hrep:=RL_repL (hzr E) len
 obtain ⟨arr',h1,h2⟩:=fill_ok (E:=E) (placeM:=fun j=>some (j*i2.size,i2.size)) (arr:=((Array.range (len*y.size)).map (z.cells[· % z.cells.size]!))) (by
  intro j p hp
  simp only [placeS,hund,hy] at hp
  rw [hs2]
  exact hp) hr (by rw [hzs] at hrep; simpa [hzs] using hrep) hf
 refine ⟨w.alloc (.cells arr' e1),?_,g.newB h2⟩
 have hlim:¬ (2 ^ 24<len*y.size):=by omega
 by_cases h0:len*y.size=0
 ·have:len=0:=by
   rcases Nat.mul_eq_zero.1 h0 with h | h
   ·exact h
   ·omega
  subst this
  simp only [Nat.zero_mul] at h1
  simp [Instr.buildSlice,und_run hd,size_run hi2,hs2,newRow]
  have h1':Instr.fill (fun j=>some (j*i2.size,i2.size)) (Array.map (fun x=>(#[]:Array Value)[x % (#[]:Array Value).size]!) (Array.range 0)) pv.toList=some arr':=by
   have:(Array.map (fun x=>(#[]:Array Value)[x % (#[]:Array Value).size]!) (Array.range 0))=Array.map (fun x=>z.cells[x % z.cells.size]!) (Array.range 0):=by simp
   rw [this]; exact h1
  simp only [hs2] at h1'
  simp at h1'
  simp [h1']
 ·simp [Instr.buildSlice,und_run hd,size_run hi2,hs2,hlim,h0,zero_run hi2 hz,newRow]
  simp only [hs2] at h1
  simp [h1]
theorem makeSlice_ok (hT:TabOk X) (g:G X own0 w0 E st w) {t e:Nat} {ty y:TY} (hty:X.T.ty.get t=some ty) (hund:ty.und=.slice e) (hy:X.T.ty.get e=some y) {n:Nat} {k j:IntKind}
  (hn:n≤100000) (hb:y.bytes≤100000) (hpos:0<y.size) :
  ∃ w',(Instr.makeSlice t (.int k (n:Nat)) (.int j (n:Nat))).run X.P w=.ok (.slice (some ⟨w.heap.size,0,none⟩) n n) w'∧G X own0 w0 (E.upd st.nid (.blk w.heap.size)) (newB st e (repL n y.zero)) w':=by
 obtain ⟨d,i,hd,hi,hs,hu⟩:=typ_some hT hty
 obtain ⟨d2,i2,hd2,hi2,hs2,hb2,hu2,ha2,hl2,z,hz,hzr⟩:=hT.ty e y hy
 rw [hund] at hu
 cases d <;> simp [UDok] at hu
 rename_i e1
 subst hu
 have hzs:z.cells.size=y.size:=by have:=RL_length (hzr E); simp at this; omega
 have hrep:=RL_repL (hzr E) n
 have hw:IntKind.i64.wrap (n:Int)=n:=wrap_in (by simp only [kmin]; omega) (by simp only [kmax]; omega)
 have hmul:(i2.bytes:Int)*(n:Int)≤10000000000:=by
  rw [hb2]
  have h1:y.bytes*n≤100000*100000:=Nat.mul_le_mul hb hn
  rw [← Int.natCast_mul]
  omega
 have hnt:¬ ((2:Int) ^ 48<(i2.bytes:Int)*(n:Int)):=by omega
 have hti:(typeInfo e1).run X.P w=.ok i2 w:=by simp [typeInfo,hi2]
 refine ⟨w.alloc (.cells ((Array.range (n*y.size)).map (z.cells[· % z.cells.size]!)) e1),?_,g.newB (by rw [hzs] at hrep; simpa [hzs] using hrep)⟩
 by_cases h0:n*y.size=0
 ·have:n=0:=by
   rcases Nat.mul_eq_zero.1 h0 with h | h
   ·exact h
   ·omega
  subst this
  simp [Instr.makeSlice,und_run hd,asInt,asIntOf,hti,size_run hi2,hs2,newRow,IntKind.wrap,IntKind.signed,IntKind.bits]
  congr 2
  apply Array.ext'
  simp
 ·simp [Instr.makeSlice,und_run hd,asInt,asIntOf,hti,hw,hnt,size_run hi2,hs2,h0,zero_run hi2 hz,newRow]
  intro hbad
  exfalso
  omega
end SE
end
end Go.Proofs.YtdgejnakakjgfaaGreatDoor
