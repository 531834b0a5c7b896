/- The symbolic executor: tests, guards, regions in the order of the text. The symbolic executor: operations that make no change to what there is. The symbolic executor: regions in any order. The symbolic executor: a region that draws its order, by a plan. -/
import Derived.Test.YtdgejnakakjgfaaGreatDoorR03
import Derived.Tactics
set_option linter.unusedVariables false
set_option linter.unusedSimpArgs false
set_option maxRecDepth 100000
namespace Go.Proofs.YtdgejnakakjgfaaGreatDoor
section
namespace SE
variable {X:Px} {own0:Nat→Prop} {w0 w:World} {E:Env} {st:St} {tm:TT} {a:Act}
theorem refine_ok {c:Cmp} {lo hi n z:Int} (h1:lo≤z) (h2:z≤hi) (h:cmpZ c z n=true):(SE.refine c lo hi n).1≤z∧z≤(SE.refine c lo hi n).2:=by
 cases c <;> simp only [cmpZ,decide_eq_true_eq] at h <;> simp only [SE.refine,cond_eq_ite,decide_eq_true_eq]
 ·have:=le_mx lo n; have:=mn_le hi n; omega
 ·constructor <;> split <;> omega
 ·have:=mn_le hi (n - 1); omega
 ·have:=mn_le hi n; omega
 ·have:=le_mx lo (n+1); omega
 ·have:=le_mx lo n; omega
theorem G.setTab (g:G X own0 w0 E st w) {id:Nat} {l h z:Int} (hE:E id=some (.z z)) (h1:l≤z) (h2:z≤h):G X own0 w0 E { st with tab:=upd st.tab id (l,h) } w:=by
 refine ⟨g.size,g.os,g.tape,g.output,g.frame,g.heap,g.inj,?_,?_,g.dom,g.gl,g.facts⟩
 ·intro id' lo hi hl
  simp only [lk_upd] at hl
  split at hl
  ·rename_i he
   subst he
   cases hl
   exact ⟨z,hE,h1,h2⟩
  ·exact g.tab id' lo hi hl
 ·intro id' i hl
  have:=g.sls id' i hl
  cases i <;> exact this
theorem assumeS_ok (g:G X own0 w0 E st w) {v:SV} {b:Bool} (h:R E v (.bool b)):∃ st',assumeS st v b=some st'∧G X own0 w0 E st' w:=by
 cases v <;> simp only [assumeS]
 case tt=>simp only [R] at h; cases h; exact ⟨st,rfl,g⟩
 case ff=>simp only [R] at h; cases h; exact ⟨st,rfl,g⟩
 case cmp c id n =>
  simp only [R] at h
  obtain ⟨z,hz,hb⟩:=h
  cases hl:lk st.tab id with
  | none=>exact ⟨st,rfl,g⟩
  | some p =>
   obtain ⟨lo,hi⟩:=p
   obtain ⟨z',hz',b1,b2⟩:=g.tab id lo hi hl
   rw [hz] at hz'
   cases hz'
   have hc:cmpZ (bif b then c else c.neg) z n=true:=by
    cases b with
    | true=>simp only [cond_true]; cases hb':cmpZ c z n with
     | true=>rfl
     | false=>rw [hb'] at hb; cases hb
    | false=>simp only [cond_false,cmpZ_neg]; cases hb':cmpZ c z n with
     | true=>rw [hb'] at hb; cases hb
     | false=>rfl
   have hr:=refine_ok b1 b2 hc
   simp only []
   obtain ⟨l,h,hlh⟩:∃ l h,SE.refine (bif b then c else c.neg) lo hi n=(l,h):=⟨_,_,rfl⟩
   rw [hlh] at hr
   simp only [hlh]
   have hle:l≤h:=by have h1:=hr.1; have h2:=hr.2; simp only at h1 h2; omega
   simp only [hle,decide_true,cond_true]
   exact ⟨_,rfl,g.setTab hz hr.1 hr.2⟩
 all_goals exact ⟨st,rfl,g⟩
theorem assumeL_ok (g:G X own0 w0 E st w) {v:SV} {b:Bool} (h:R E v (.bool b)):∃ st'∈assumeL st v b,G X own0 w0 E st' w:=by
 have base:∃ st'∈toL (assumeS st v b),G X own0 w0 E st' w:=by
  obtain ⟨st',h1,h2⟩:=assumeS_ok g h
  exact ⟨st',by rw [h1]; simp [toL],h2⟩
 cases v <;> simp only [assumeL] <;> try exact base
 rename_i c id n
 simp only [R] at h
 obtain ⟨z,hz,hb⟩:=h
 cases hc:(bif b then c else c.neg) <;> simp only [] <;> try exact base
 cases hl:lk st.tab id with
 | none=>exact base
 | some p =>
  obtain ⟨lo,hi⟩:=p
  simp only []
  cases hd:(decide (lo<n)&&(decide (n<hi)&&decide (hi - lo≤40))) with
  | false=>exact base
  | true =>
   simp only [cond_true]
   obtain ⟨z',hz',b1,b2⟩:=g.tab id lo hi hl
   rw [hz] at hz'
   cases hz'
   have hne:cmpZ .ne z n=true:=by
    rw [← hc]
    cases b with
    | true=>simp only [cond_true]; cases hb':cmpZ c z n with
     | true=>rfl
     | false=>rw [hb'] at hb; cases hb
    | false=>simp only [cond_false,cmpZ_neg]; cases hb':cmpZ c z n with
     | true=>rw [hb'] at hb; cases hb
     | false=>rfl
   simp only [cmpZ,decide_eq_true_eq] at hne
   by_cases hlt:z<n
   ·exact ⟨_,List.mem_cons_self,g.setTab hz b1 (by omega)⟩
   ·exact ⟨_,List.mem_cons_of_mem _ List.mem_cons_self,g.setTab hz (by omega) b2⟩
theorem bool_slot {ops:Array Oper} {j t:Nat} {oj:Oper} {tmps:Array Value} {b:Bool} (hj:nth ops.toList j=some oj) (hd:oj.dst=some t) (h:tmps.getD t undef=.bool b):yielded ops tmps j=some b:=by
 have hn:∀ (l:List Oper) (j:Nat),nth l j=l[j]?:=by
  intro l
  induction l with
  | nil=>intro j; simp [nth]
  | cons x l ih =>
   intro j
   cases j with
   | zero=>simp [nth]
   | succ j=>simp [nth,ih]
 have h1:ops[j]?=some oj:=by rw [hn] at hj; simpa using hj
 have h2:tmps[t]?=some (.bool b):=by
  cases hq:tmps[t]? with
  | none=>simp [hq] at h; cases h
  | some v=>simp [hq] at h; rw [h]
 simp [yielded,h1,hd,h2]
theorem R_undef (E:Env):R E (.tup []) undef:=by
 simp only [R]
 exact ⟨#[],rfl,by simp [RL]⟩
theorem undef_slot {ops:Array Oper} {j t:Nat} {oj:Oper} {tmps:Array Value} (hj:nth ops.toList j=some oj) (hd:oj.dst=some t) (h:tmps.getD t undef=.tuple #[]):∀ b,yielded ops tmps j≠some b:=by
 have hn:∀ (l:List Oper) (j:Nat),nth l j=l[j]?:=by
  intro l
  induction l with
  | nil=>intro j; simp [nth]
  | cons x l ih =>
   intro j
   cases j with
   | zero=>simp [nth]
   | succ j=>simp [nth,ih]
 have h1:ops[j]?=some oj:=by rw [hn] at hj; simpa using hj
 intro b
 cases hq:tmps[t]? with
 | none=>simp [yielded,h1,hd,hq]
 | some v=>simp [hq] at h; simp [yielded,h1,hd,hq,h]
theorem guardS_ok (g:G X own0 w0 E st w) (f:FOk E tm a) {ops:Array Oper} {o:Oper}:match guardS ops.toList tm st o with
  | .run=>Region.wanted o (yielded ops a.tmps)=true
  | .skip=>Region.wanted o (yielded ops a.tmps)=false
  | .fork t want=>∃ b,R E (tm.get t) (.bool b)∧a.tmps.getD t undef=.bool b∧Region.wanted o (yielded ops a.tmps)=(b == want)
  | .bad=>True:=by
 unfold guardS
 cases hg:o.guard with
 | none=>simp [Region.wanted,hg]
 | some q =>
  obtain ⟨j,want⟩:=q
  simp only []
  cases hj:nth ops.toList j with
  | none=>trivial
  | some oj =>
   simp only []
   cases hd:oj.dst with
   | none=>trivial
   | some t =>
    simp only []
    have hs:=f.slot t
    cases hb:evalB st (tm.get t) with
    | some b =>
     have hv:=evalB_ok g hb hs
     have hy:=bool_slot hj hd hv
     simp only []
     cases b <;> cases want <;> simp [Region.wanted,hg,hy]
    | none =>
     simp only []
     cases hi:isB (tm.get t) with
     | false =>
      simp only [cond_false]
      by_cases hq:tm.get t=.tup []
      ·simp only [hq]
       rw [hq] at hs
       simp only [R] at hs
       obtain ⟨cs,hc,hl⟩:=hs
       have hce:cs=#[]:=by
        simp only [RL] at hl
        exact Array.ext' (by simpa using hl)
       subst hce
       have hy:=undef_slot hj hd hc
       cases hyy:yielded ops a.tmps j with
       | none=>simp [Region.wanted,hg,hyy]
       | some b=>exact absurd hyy (hy b)
      ·have he:(match tm.get t with
        | .tup []=>Gd.skip
        | _=>Gd.bad)=Gd.bad:=by
        split
        ·rename_i hh; exact absurd hh hq
        ·rfl
       simp only [he]
     | true =>
      obtain ⟨b,hv⟩:=isB_ok hi hs
      have hy:=bool_slot hj hd hv
      simp only [cond_true]
      refine ⟨b,by rw [← hv]; exact hs,hv,?_⟩
      simp [Region.wanted,hg,hy]
theorem ofB_slot {v:Value} {b:Bool} (h:v=.bool b):R E (ofB b) v:=by rw [h]; exact ofB_ok b
theorem bindL_mem {α β:Type} {f:α→Option (List β)}:∀ {l:List α} {r:List β},bindL f l=some r→∀ x∈l,∃ m,f x=some m∧∀ y∈m,y∈r
 | [],r,e,x,hx=>by cases hx
 | y::l,r,e,x,hx=>by
  simp only [bindL] at e
  cases h1:f y with
  | none=>simp only [h1] at e; cases e
  | some m =>
   cases h2:bindL f l with
   | none=>simp only [h1,h2] at e; cases e
   | some n =>
    simp only [h1,h2,appS_eq,Option.some.injEq] at e
    subst e
    rcases List.mem_cons.1 hx with rfl | hx
    ·exact ⟨m,h1,fun z hz=>List.mem_append_left _ hz⟩
    ·obtain ⟨m',h3,h4⟩:=bindL_mem h2 x hx
     exact ⟨m',h3,fun z hz=>List.mem_append_right _ (h4 z hz)⟩
theorem gStep_wp (hT:TabOk X) (hP:PkOk X) (hR:RkOk X) {call:Nat→List SV→St→Option Out} (hC:CallOk X own0 w0 call) (g:G X own0 w0 E st w) (f:FOk E tm a) {ops:Array Oper} {o:Oper} {l:List Sx}
  (e:gStep X.T call ops.toList tm st o=some l) {K:Act→World→Prop} {Q:Exit→Act→World→Prop} (hK:Post X own0 w0 E l K) :
  if Region.wanted o (yielded ops a.tmps) then o.wp X.P a w K Q else K (a.put o.dst undef) w:=by
 unfold gStep at e
 have hg:=guardS_ok g f (ops:=ops) (o:=o)
 cases hgd:guardS ops.toList tm st o with
 | run =>
  rw [hgd] at hg
  simp only [hgd] at e
  rw [if_pos hg]
  exact opStep_wp hT hP hR hC g f e hK
 | skip =>
  rw [hgd] at hg
  simp only [hgd,putK_eq,Option.some.injEq] at e
  simp only at hg
  rw [hg]
  subst e
  exact hK _ List.mem_cons_self E _ w (Env.le_refl E) g (f.put o.dst (v:=.tup []) (R_undef E))
 | bad=>simp only [hgd] at e; cases e
 | fork t want =>
  rw [hgd] at hg
  obtain ⟨b,hb,hv,hw⟩:=hg
  simp only [hgd,setK_eq,putK_eq,fSt_eq,fStM_eq,fStT_eq] at e
  rw [hw]
  obtain ⟨st',ha,g'⟩:=assumeL_ok g hb
  have f':FOk E (tm.set t (ofB b)) a:=f.refine t (ofB_slot hv)
  by_cases hbw:b=want
  ·subst hbw
   cases h1:bindL (fun st'=>opStep X.T call (tm.set t (ofB b)) st' o) (assumeL st (tm.get t) b) with
   | none=>simp only [h1] at e; cases e
   | some l1 =>
    simp only [h1] at e
    obtain ⟨m,hm1,hm2⟩:=bindL_mem h1 st' ha
    simp only [beq_self_eq_true,if_true]
    refine opStep_wp hT hP hR hC g' f' hm1 fun s hs=>hK s ?_
    revert e
    split
    ·intro e; cases e; exact List.mem_append_left _ (hm2 s hs)
    ·intro e; cases e
  ·have hbw':b=!want:=by cases b <;> cases want <;> simp at hbw ⊢
   have hbe:(b == want)=false:=by cases b <;> cases want <;> simp at hbw ⊢
   rw [hbe]
   simp only [Bool.false_eq_true,if_false]
   revert e
   split
   ·rename_i l1 _
    split
    ·rename_i l2 h2
     intro e
     cases e
     rw [← hbw'] at h2
     obtain ⟨m,hm1,hm2⟩:=bindL_mem h2 st' ha
     cases hm1
     exact hK _ (List.mem_append_right _ (hm2 _ List.mem_cons_self)) E _ w (Env.le_refl E) g' (f'.put o.dst (v:=.tup []) (R_undef E))
    ·intro e; cases e
   ·intro e; cases e
theorem Post.mono {l l':List Sx} {E':Env} {K:Act→World→Prop} (h:Post X own0 w0 E l K) (he:E.le E') (hl:∀ s∈l',s∈l):Post X own0 w0 E' l' K :=
 fun s hs E'' a' w' hle=>h s (hl s hs) E'' a' w' (Env.le_trans he hle)
theorem runOps_wp (hT:TabOk X) (hP:PkOk X) (hR:RkOk X) {call:Nat→List SV→St→Option Out} (hC:CallOk X own0 w0 call) {ops:Array Oper} {Q:Exit→Act→World→Prop} :
  ∀ {rest:List Oper} {E:Env} {s:Sx} {a:Act} {w:World} {l:List Sx},runOps X.T call ops.toList rest s=some l→G X own0 w0 E s.2 w→FOk E s.1 a→Post X own0 w0 E l (Q .normal)→wpList X.P ops Q rest a w
 | [],E,s,a,w,l,e,g,f,hQ=>by
  simp only [runOps] at e
  cases e
  exact hQ s List.mem_cons_self E a w (Env.le_refl E) g f
 | o::rest,E,s,a,w,l,e,g,f,hQ=>by
  simp only [runOps] at e
  cases h1:gStep X.T call ops.toList s.1 s.2 o with
  | none=>simp only [h1] at e; cases e
  | some m =>
   simp only [h1] at e
   refine wpList_step fun K hK=>?_
   refine gStep_wp hT hP hR hC g f h1 fun s' hs' E' a' w' hle g' f'=>?_
   obtain ⟨r,hr,hr2⟩:=bindL_mem e s' hs'
   exact hK _ _ (runOps_wp hT hP hR hC hr g' f' (hQ.mono hle hr2))
end SE
end
section
namespace SE
def Grow {α:Type} (P:Program) (s:Sem α):Prop:=∀ w x w',s.run P w=.ok x w'→Ext0 w w'
section
variable {P:Program} {α β:Type}
theorem grow_pure (x:α):Grow P (pure x:Sem α):=fun w y w' h=>by
 simp only [Sem.run_pure,Result.ok.injEq] at h
 rw [← h.2]; exact Ext0.refl w
theorem grow_pure' (x:α):Grow P (Sem.pure x:Sem α):=grow_pure x
theorem grow_bind {x:Sem α} {f:α→Sem β} (h:Grow P x) (k:∀ v,Grow P (f v)):Grow P (x >>= f):=fun w y w' e=>by
 rw [Sem.run_bind] at e
 cases hx:x.run P w with
 | ok v w1=>rw [hx] at e; exact (h w v w1 hx).trans (k v w1 y w' e)
 | halt q w1=>rw [hx] at e; cases e
theorem grow_map {x:Sem α} {f:α→β} (h:Grow P x):Grow P (Functor.map f x):=fun w y w' e=>by
 rw [Sem.run_map] at e
 cases hx:x.run P w with
 | ok v w1=>rw [hx] at e; cases e; exact h w v _ hx
 | halt q w1=>rw [hx] at e; cases e
theorem grow_halt (h:Halt):Grow P (Sem.halt h:Sem α):=fun w y w' e=>by simp [Sem.run] at e
theorem grow_stuck (s:String):Grow P (stuck s:Sem α):=grow_halt _
theorem grow_unsup (s:Unsupported):Grow P (unsupported s:Sem α):=grow_halt _
theorem grow_panic (v:Value):Grow P (goPanic v:Sem α):=grow_halt _
theorem grow_load (a:Addr):Grow P (load a):=fun w y w' e=>by
 rw [run_load] at e
 cases hc:w.cell? a with
 | some v=>rw [hc] at e; cases e; exact Ext0.refl w
 | none =>
  rw [hc] at e
  simp only at e
  split at e
  ·cases e; exact Ext0.refl w
  ·cases e
theorem grow_newObj (o:Obj):Grow P (newObj o):=fun w y w' e=>by
 rw [run_newObj] at e
 cases e
 exact ext_alloc w o
theorem grow_shape (r:Nat):Grow P (shape r):=fun w y w' e=>by rw [run_shape] at e; cases e; exact Ext0.refl w
theorem grow_program:Grow P program:=fun w y w' e=>by rw [run_program] at e; cases e; exact Ext0.refl w
theorem grow_choose (q:Question):Grow P (choose q):=fun w y w' e=>by
 rw [run_choose] at e
 split at e
 ·cases e; exact Ext0.refl w
 ·cases e; exact ⟨Nat.le_refl _,fun _ _=>rfl⟩
theorem grow_getObj (r:Nat):Grow P (getObj r):=fun w y w' e=>by
 simp only [getObj,Sem.run] at e
 split at e
 ·cases e
 ·cases e; exact Ext0.refl w
 ·cases e
theorem grow_ite {c:Prop} [Decidable c] {x y:Sem α} (h:Grow P x) (k:Grow P y):Grow P (if c then x else y):=by
 split
 ·exact h
 ·exact k
theorem grow_typeInfo (t:TypeId):Grow P (typeInfo t):=by
 unfold typeInfo
 refine grow_bind grow_program fun p=>?_
 split
 ·exact grow_pure _
 ·exact grow_stuck _
theorem grow_underlying (t:TypeId):Grow P (underlying t):=by
 unfold underlying
 refine grow_bind grow_program fun p=>?_
 split
 ·exact grow_pure _
 ·exact grow_stuck _
theorem grow_sizeOf (t:TypeId):Grow P (sizeOf t):=by
 unfold sizeOf
 exact grow_bind (grow_typeInfo t) fun i=>grow_pure _
theorem grow_zeroValue (t:TypeId):Grow P (zeroValue t):=by
 unfold zeroValue
 refine grow_bind (grow_typeInfo t) fun i=>?_
 split
 ·exact grow_pure _
 ·exact grow_unsup _
theorem grow_isAgg (t:TypeId):Grow P (isAgg t):=by
 unfold isAgg
 refine grow_bind (grow_underlying t) fun d=>?_
 split <;> exact grow_pure _
theorem grow_loadCells (a:Addr):∀ (n i:Nat) (acc:Array Value),Grow P (loadCellsFrom a i n acc)
 | 0,i,acc=>by unfold loadCellsFrom; exact grow_pure _
 | n+1,i,acc=>by
  unfold loadCellsFrom
  exact grow_bind (grow_load _) fun v=>grow_loadCells a n _ _
theorem grow_loadVar (t:TypeId) (a:Addr):Grow P (loadVar t a):=by
 unfold loadVar
 refine grow_bind (grow_isAgg t) fun b=>?_
 split
 ·refine grow_bind (grow_sizeOf t) fun n=>grow_bind (grow_loadCells _ _ _ _) fun c=>grow_pure _
 ·exact grow_load a
theorem grow_sureAddr (v:Value):Grow P (Instr.sureAddr v):=by
 unfold Instr.sureAddr
 split
 ·exact grow_pure _
 ·exact grow_stuck _
theorem grow_part (t:TypeId) (cs:Array Value) (off:Nat):Grow P (part t cs off):=by
 unfold part
 refine grow_bind (grow_isAgg t) fun b=>?_
 split
 ·exact grow_bind (grow_sizeOf t) fun n=>grow_pure _
 ·split
  ·exact grow_pure _
  ·exact grow_stuck _
theorem grow_newRow (t:TypeId) (c:Array Value):Grow P (newRow t c):=by
 unfold newRow
 exact grow_bind (grow_newObj _) fun n=>grow_pure _
theorem grow_newVar (t:TypeId) (v:Value):Grow P (newVar t v):=grow_newRow _ _
theorem grow_elemOf (t:TypeId):Grow P (elemOf t):=by
 unfold elemOf
 refine grow_bind (grow_underlying t) fun d=>?_
 split
 ·exact grow_pure _
 ·exact grow_stuck _
theorem grow_rp (e:RuntimeError):Grow P (runtimePanic e:Sem α):=by
 unfold runtimePanic
 refine grow_bind grow_program fun p=>?_
 cases e <;> simp only <;> first
  | exact grow_panic _
  | exact grow_bind (grow_bind (grow_elemOf _) fun _=>grow_newVar _ _) fun _=>grow_panic _
  | (refine grow_bind (grow_elemOf _) fun _=>grow_bind (grow_newVar _ _) fun _=>grow_panic _)
theorem grow_bp (k:IntKind) (x y:Int) (c:BoundsCode):Grow P (boundsPanic k x y c:Sem α):=by
 unfold boundsPanic
 dsimp only
 split
 ·exact grow_bind (grow_map (grow_choose _)) fun _=>grow_rp _
 ·exact grow_bind (grow_pure _) fun _=>grow_rp _
theorem grow_asIntOf (v:Value):Grow P (asIntOf v):=by
 unfold asIntOf
 split
 ·exact grow_pure _
 ·exact grow_unsup _
 ·exact grow_stuck _
theorem grow_asInt (v:Value):Grow P (asInt v):=grow_bind (grow_asIntOf v) fun _=>grow_pure _
theorem grow_asBool (v:Value):Grow P (asBool v):=by
 unfold asBool
 split
 ·exact grow_pure _
 ·exact grow_stuck _
theorem grow_asAgg (v:Value):Grow P (asAgg v):=by
 unfold asAgg
 split
 ·exact grow_pure _
 ·exact grow_stuck _
theorem grow_viewAt (r:Nat):Grow P (viewAt r):=by
 unfold viewAt
 refine grow_bind (grow_shape r) fun s=>?_
 split
 ·exact grow_pure _
 ·refine grow_bind (grow_getObj r) fun o=>?_
  split <;> exact grow_pure _
theorem grow_noView (a:Addr):Grow P (noView a):=by
 unfold noView
 refine grow_bind (grow_viewAt _) fun s=>?_
 split
 ·exact grow_unsup _
 ·exact grow_pure _
theorem grow_byteOf (a:Addr):Grow P (byteOf a):=by
 unfold byteOf
 split
 ·exact grow_pure _
 ·refine grow_bind grow_program fun p=>grow_bind (grow_noView a) fun _=>grow_bind (grow_shape _) fun s=>?_
  split
  ·dsimp only
   split
   ·exact grow_pure _
   ·split
    ·exact grow_pure _
    ·exact grow_stuck _
  ·exact grow_stuck _
theorem grow_fieldPlace (a:Addr) (f:Field):Grow P (fieldPlace a f):=by
 unfold fieldPlace
 refine grow_bind (grow_sizeOf _) fun n=>?_
 split
 ·unfold partAt
  refine grow_bind (grow_byteOf a) fun b=>grow_bind (grow_byteOf _) fun c=>grow_pure _
 ·exact grow_pure _
theorem grow_alloc (t:TypeId):Grow P (Instr.alloc t true (.tuple #[])):=by
 unfold Instr.alloc
 refine grow_bind (grow_zeroValue t) fun z=>?_
 exact grow_bind (grow_newVar _ _) fun _=>grow_pure _
theorem grow_box (t:TypeId) (v:Value):Grow P (Instr.box t v):=by
 unfold Instr.box
 exact grow_bind (grow_newVar _ _) fun _=>grow_pure _
theorem grow_loadAt (t:TypeId) (v:Value):Grow P (Instr.loadAt t v):=by
 unfold Instr.loadAt
 exact grow_bind (grow_sureAddr v) fun a=>grow_loadVar t a
theorem grow_fieldAt (s:TypeId) (v:Value) (f:Nat):Grow P (Instr.fieldAt s v f):=by
 unfold Instr.fieldAt
 refine grow_bind (grow_underlying s) fun d=>?_
 split
 ·split
  ·exact grow_bind (grow_sureAddr v) fun a=>grow_bind (grow_fieldPlace _ _) fun _=>grow_pure _
  ·exact grow_stuck _
 ·exact grow_stuck _
theorem grow_field (s:TypeId) (v:Value) (f:Nat):Grow P (Instr.field s v f):=by
 unfold Instr.field
 refine grow_bind (grow_underlying s) fun d=>?_
 split
 ·split
  ·exact grow_bind (grow_asAgg v) fun a=>grow_part _ _ _
  ·exact grow_stuck _
 ·exact grow_stuck _
theorem grow_extract (v:Value) (i:Nat):Grow P (Instr.extract v i):=by
 unfold Instr.extract
 split
 ·split
  ·exact grow_pure _
  ·exact grow_stuck _
 ·exact grow_stuck _
theorem grow_index (t:TypeId) (x i:Value):Grow P (Instr.index t x i):=by
 unfold Instr.index
 refine grow_bind (grow_asIntOf i) fun p=>?_
 refine grow_bind (grow_underlying t) fun d=>?_
 split
 ·split
  ·exact grow_bind (grow_sizeOf _) fun _=>grow_part _ _ _
  ·exact grow_bp _ _ _ _
 ·split
  ·exact grow_pure _
  ·exact grow_bp _ _ _ _
 ·exact grow_stuck _
theorem grow_indexAt (t:TypeId) (x i:Value):Grow P (Instr.indexAt t x i):=by
 unfold Instr.indexAt
 repeat' (first
  | exact grow_pure _ | exact grow_pure' _ | exact grow_stuck _ | exact grow_unsup _ | exact grow_panic _ | exact grow_halt _ | exact grow_rp _ | exact grow_bp _ _ _ _
  | exact grow_underlying _ | exact grow_sizeOf _ | exact grow_zeroValue _ | exact grow_sureAddr _ | exact grow_newRow _ _ | exact grow_newVar _ _ | exact grow_asInt _ | exact grow_asIntOf _ | exact grow_asBool _ | exact grow_asAgg _
  | exact grow_choose _ | exact grow_program | exact grow_typeInfo _ | exact grow_shape _ | exact grow_getObj _ | exact grow_byteOf _ | exact grow_newObj _ | exact grow_part _ _ _ | exact grow_loadVar _ _
  | exact grow_map (grow_choose _)
  | refine grow_bind ?_ fun _=>?_
  | split
  | dsimp only)
theorem grow_mapM {f:α→Sem β} (h:∀ x,Grow P (f x)):∀ l:List α,Grow P (l.mapM f)
 | []=>by rw [List.mapM_nil]; exact grow_pure _
 | x::l=>by
  rw [List.mapM_cons]
  exact grow_bind (h x) fun _=>grow_bind (grow_mapM h l) fun _=>grow_pure _
theorem grow_build (t:TypeId) (ps:Array (Nat×Value)):Grow P (Instr.build t ps):=by
 unfold Instr.build
 refine grow_bind (grow_zeroValue t) fun z=>?_
 refine grow_bind (grow_underlying t) fun d=>?_
 split
 ·refine grow_bind ?_ fun pl=>?_
  ·rw [Array.mapM_eq_mapM_toList]
   exact grow_map (grow_mapM (fun f=>grow_bind (grow_sizeOf _) fun _=>grow_pure _) _)
  ·split
   ·exact grow_pure _
   ·exact grow_stuck _
 ·refine grow_bind (grow_sizeOf _) fun n=>?_
  split
  ·exact grow_pure _
  ·exact grow_stuck _
 ·exact grow_stuck _
theorem grow_buildSlice (t:TypeId) (n:Nat) (ps:Array (Nat×Value)):Grow P (Instr.buildSlice t n ps):=by
 unfold Instr.buildSlice
 repeat' (first
  | exact grow_pure _ | exact grow_pure' _ | exact grow_stuck _ | exact grow_unsup _ | exact grow_panic _ | exact grow_halt _ | exact grow_rp _ | exact grow_bp _ _ _ _
  | exact grow_underlying _ | exact grow_sizeOf _ | exact grow_zeroValue _ | exact grow_sureAddr _ | exact grow_newRow _ _ | exact grow_newVar _ _ | exact grow_asInt _ | exact grow_asIntOf _ | exact grow_asBool _ | exact grow_asAgg _
  | exact grow_choose _ | exact grow_program | exact grow_typeInfo _ | exact grow_shape _ | exact grow_getObj _ | exact grow_byteOf _ | exact grow_newObj _ | exact grow_part _ _ _ | exact grow_loadVar _ _
  | exact grow_map (grow_choose _)
  | refine grow_bind ?_ fun _=>?_
  | split
  | dsimp only)
theorem grow_floatArith (op:BinOp) (k:FloatKind) (x y:Nat):Grow P (Op.floatArith op k x y):=by
 unfold Op.floatArith
 repeat' (first
  | exact grow_pure _ | exact grow_pure' _ | exact grow_stuck _ | exact grow_unsup _ | exact grow_panic _ | exact grow_halt _ | exact grow_rp _ | exact grow_bp _ _ _ _
  | exact grow_underlying _ | exact grow_sizeOf _ | exact grow_zeroValue _ | exact grow_sureAddr _ | exact grow_newRow _ _ | exact grow_newVar _ _ | exact grow_asInt _ | exact grow_asIntOf _ | exact grow_asBool _ | exact grow_asAgg _
  | exact grow_choose _ | exact grow_program | exact grow_typeInfo _ | exact grow_shape _ | exact grow_getObj _ | exact grow_byteOf _ | exact grow_newObj _ | exact grow_part _ _ _ | exact grow_loadVar _ _
  | exact grow_map (grow_choose _)
  | refine grow_bind ?_ fun _=>?_
  | split
  | dsimp only)
theorem grow_floatCmp (op:BinOp) (k:FloatKind) (x y:Nat):Grow P (Op.floatCmp op k x y):=by
 unfold Op.floatCmp
 repeat' (first
  | exact grow_pure _ | exact grow_pure' _ | exact grow_stuck _ | exact grow_unsup _ | exact grow_panic _ | exact grow_halt _ | exact grow_rp _ | exact grow_bp _ _ _ _
  | exact grow_underlying _ | exact grow_sizeOf _ | exact grow_zeroValue _ | exact grow_sureAddr _ | exact grow_newRow _ _ | exact grow_newVar _ _ | exact grow_asInt _ | exact grow_asIntOf _ | exact grow_asBool _ | exact grow_asAgg _
  | exact grow_choose _ | exact grow_program | exact grow_typeInfo _ | exact grow_shape _ | exact grow_getObj _ | exact grow_byteOf _ | exact grow_newObj _ | exact grow_part _ _ _ | exact grow_loadVar _ _
  | exact grow_map (grow_choose _)
  | refine grow_bind ?_ fun _=>?_
  | split
  | dsimp only)
theorem grow_unary (op:UnOp) (x:Value):Grow P (Op.unary op x):=by
 unfold Op.unary
 split <;> (try unfold Op.intArith) <;> (try unfold Op.intBits)
 all_goals repeat' (first
  | exact grow_pure _ | exact grow_pure' _ | exact grow_stuck _ | exact grow_unsup _ | exact grow_panic _ | exact grow_halt _ | exact grow_rp _ | exact grow_bp _ _ _ _
  | exact grow_underlying _ | exact grow_sizeOf _ | exact grow_zeroValue _ | exact grow_sureAddr _ | exact grow_newRow _ _ | exact grow_newVar _ _ | exact grow_asInt _ | exact grow_asIntOf _ | exact grow_asBool _ | exact grow_asAgg _
  | exact grow_choose _ | exact grow_program | exact grow_typeInfo _ | exact grow_shape _ | exact grow_getObj _ | exact grow_byteOf _ | exact grow_newObj _ | exact grow_part _ _ _ | exact grow_loadVar _ _
  | exact grow_map (grow_choose _)
  | refine grow_bind ?_ fun _=>?_
  | split
  | dsimp only)
theorem grow_numberAt (r:Nat):Grow P (numberAt r):=by
 unfold numberAt
 repeat' (first
  | exact grow_pure _ | exact grow_pure' _ | exact grow_stuck _ | exact grow_unsup _ | exact grow_panic _ | exact grow_halt _ | exact grow_rp _ | exact grow_bp _ _ _ _
  | exact grow_underlying _ | exact grow_sizeOf _ | exact grow_zeroValue _ | exact grow_sureAddr _ | exact grow_newRow _ _ | exact grow_newVar _ _ | exact grow_asInt _ | exact grow_asIntOf _ | exact grow_asBool _ | exact grow_asAgg _
  | exact grow_choose _ | exact grow_program | exact grow_typeInfo _ | exact grow_shape _ | exact grow_getObj _ | exact grow_byteOf _ | exact grow_newObj _ | exact grow_part _ _ _ | exact grow_loadVar _ _
  | exact grow_map (grow_choose _)
  | refine grow_bind ?_ fun _=>?_
  | split
  | dsimp only)
theorem grow_behind (a:Addr):Grow P (behindNumber a):=by
 unfold behindNumber
 exact grow_bind (grow_numberAt _) fun _=>grow_pure _
theorem grow_shift (op:BinOp) (k j:IntKind) (x y:Int):Grow P (Op.shift op k x j y):=by
 unfold Op.shift
 repeat' (first
  | exact grow_pure _ | exact grow_pure' _ | exact grow_stuck _ | exact grow_unsup _ | exact grow_panic _ | exact grow_halt _ | exact grow_rp _ | exact grow_bp _ _ _ _
  | exact grow_underlying _ | exact grow_sizeOf _ | exact grow_zeroValue _ | exact grow_sureAddr _ | exact grow_newRow _ _ | exact grow_newVar _ _ | exact grow_asInt _ | exact grow_asIntOf _ | exact grow_asBool _ | exact grow_asAgg _
  | exact grow_choose _ | exact grow_program | exact grow_typeInfo _ | exact grow_shape _ | exact grow_getObj _ | exact grow_byteOf _ | exact grow_newObj _ | exact grow_part _ _ _ | exact grow_loadVar _ _
  | exact grow_map (grow_choose _)
  | refine grow_bind ?_ fun _=>?_
  | split
  | dsimp only)
theorem grow_intBits (op:BinOp) (k:IntKind) (x y:Int):Grow P (Op.intBits op k x y):=by
 unfold Op.intBits
 repeat' (first
  | exact grow_pure _ | exact grow_pure' _ | exact grow_stuck _ | exact grow_unsup _ | exact grow_panic _ | exact grow_halt _ | exact grow_rp _ | exact grow_bp _ _ _ _
  | exact grow_underlying _ | exact grow_sizeOf _ | exact grow_zeroValue _ | exact grow_sureAddr _ | exact grow_newRow _ _ | exact grow_newVar _ _ | exact grow_asInt _ | exact grow_asIntOf _ | exact grow_asBool _ | exact grow_asAgg _
  | exact grow_choose _ | exact grow_program | exact grow_typeInfo _ | exact grow_shape _ | exact grow_getObj _ | exact grow_byteOf _ | exact grow_newObj _ | exact grow_part _ _ _ | exact grow_loadVar _ _
  | exact grow_map (grow_choose _)
  | refine grow_bind ?_ fun _=>?_
  | split
  | dsimp only)
theorem grow_intCmp (op:BinOp) (x y:Int):Grow P (Op.intCmp op x y):=by
 unfold Op.intCmp
 repeat' (first
  | exact grow_pure _ | exact grow_pure' _ | exact grow_stuck _ | exact grow_unsup _ | exact grow_panic _ | exact grow_halt _ | exact grow_rp _ | exact grow_bp _ _ _ _
  | exact grow_underlying _ | exact grow_sizeOf _ | exact grow_zeroValue _ | exact grow_sureAddr _ | exact grow_newRow _ _ | exact grow_newVar _ _ | exact grow_asInt _ | exact grow_asIntOf _ | exact grow_asBool _ | exact grow_asAgg _
  | exact grow_choose _ | exact grow_program | exact grow_typeInfo _ | exact grow_shape _ | exact grow_getObj _ | exact grow_byteOf _ | exact grow_newObj _ | exact grow_part _ _ _ | exact grow_loadVar _ _
  | exact grow_map (grow_choose _)
  | refine grow_bind ?_ fun _=>?_
  | split
  | dsimp only)
theorem grow_stringOp (op:BinOp) (x y:ByteArray):Grow P (Op.stringOp op x y):=by
 unfold Op.stringOp
 repeat' (first
  | exact grow_pure _ | exact grow_pure' _ | exact grow_stuck _ | exact grow_unsup _ | exact grow_panic _ | exact grow_halt _ | exact grow_rp _ | exact grow_bp _ _ _ _
  | exact grow_underlying _ | exact grow_sizeOf _ | exact grow_zeroValue _ | exact grow_sureAddr _ | exact grow_newRow _ _ | exact grow_newVar _ _ | exact grow_asInt _ | exact grow_asIntOf _ | exact grow_asBool _ | exact grow_asAgg _
  | exact grow_choose _ | exact grow_program | exact grow_typeInfo _ | exact grow_shape _ | exact grow_getObj _ | exact grow_byteOf _ | exact grow_newObj _ | exact grow_part _ _ _ | exact grow_loadVar _ _
  | exact grow_map (grow_choose _)
  | refine grow_bind ?_ fun _=>?_
  | split
  | dsimp only)
theorem grow_twoPlaces (x y:Addr):Grow P (Op.twoPlaces x y):=by
 unfold Op.twoPlaces
 repeat' (first
  | exact grow_pure _ | exact grow_pure' _ | exact grow_stuck _ | exact grow_unsup _ | exact grow_panic _ | exact grow_halt _ | exact grow_rp _ | exact grow_bp _ _ _ _
  | exact grow_underlying _ | exact grow_sizeOf _ | exact grow_zeroValue _ | exact grow_sureAddr _ | exact grow_newRow _ _ | exact grow_newVar _ _ | exact grow_asInt _ | exact grow_asIntOf _ | exact grow_asBool _ | exact grow_asAgg _
  | exact grow_choose _ | exact grow_program | exact grow_typeInfo _ | exact grow_shape _ | exact grow_getObj _ | exact grow_byteOf _ | exact grow_newObj _ | exact grow_part _ _ _ | exact grow_loadVar _ _
  | exact grow_map (grow_choose _)
  | refine grow_bind ?_ fun _=>?_
  | split
  | dsimp only)
theorem grow_addrCmp (op:BinOp) (x y:Addr):Grow P (Op.addrCmp op x y):=by
 unfold Op.addrCmp
 repeat' (first
  | exact grow_twoPlaces _ _
  | exact grow_pure _ | exact grow_pure' _ | exact grow_stuck _ | exact grow_unsup _ | exact grow_panic _ | exact grow_halt _ | exact grow_rp _ | exact grow_bp _ _ _ _
  | exact grow_underlying _ | exact grow_sizeOf _ | exact grow_zeroValue _ | exact grow_sureAddr _ | exact grow_newRow _ _ | exact grow_newVar _ _ | exact grow_asInt _ | exact grow_asIntOf _ | exact grow_asBool _ | exact grow_asAgg _
  | exact grow_choose _ | exact grow_program | exact grow_typeInfo _ | exact grow_shape _ | exact grow_getObj _ | exact grow_byteOf _ | exact grow_newObj _ | exact grow_part _ _ _ | exact grow_loadVar _ _
  | exact grow_map (grow_choose _)
  | refine grow_bind ?_ fun _=>?_
  | split
  | dsimp only)
theorem grow_addrMod (k:IntKind) (x:Addr) (n:Int):Grow P (Op.addrMod k x n):=by
 unfold Op.addrMod
 repeat' (first
  | exact grow_pure _ | exact grow_pure' _ | exact grow_stuck _ | exact grow_unsup _ | exact grow_panic _ | exact grow_halt _ | exact grow_rp _ | exact grow_bp _ _ _ _
  | exact grow_underlying _ | exact grow_sizeOf _ | exact grow_zeroValue _ | exact grow_sureAddr _ | exact grow_newRow _ _ | exact grow_newVar _ _ | exact grow_asInt _ | exact grow_asIntOf _ | exact grow_asBool _ | exact grow_asAgg _
  | exact grow_choose _ | exact grow_program | exact grow_typeInfo _ | exact grow_shape _ | exact grow_getObj _ | exact grow_byteOf _ | exact grow_newObj _ | exact grow_part _ _ _ | exact grow_loadVar _ _
  | exact grow_map (grow_choose _)
  | refine grow_bind ?_ fun _=>?_
  | split
  | dsimp only)
theorem grow_bare {op:BinOp} (h:op=.and∨op=.or∨op=.xor∨op=.shl∨op=.shr∨op=.lss∨op=.leq∨op=.gtr∨op=.geq) (t:TypeId) (u v:Value) :
  Grow P (binOp op t u v:Sem Value):=by
 unfold binOp
 split
 case h_1=>exact grow_shift _ _ _ _ _
 case h_2=>exact grow_shift _ _ _ _ _
 all_goals first
  | exact grow_stuck _
  | exact grow_unsup _
  | exact grow_stringOp _ _ _
  | exact grow_bind (grow_behind _) fun _=>grow_addrMod _ _ _
  | exact grow_bind (grow_behind _) fun _=>grow_bind (grow_behind _) fun _=>grow_addrCmp _ _ _
  | (exfalso; rcases h with h | h | h | h | h | h | h | h | h <;> cases h; done)
  | (refine grow_ite (grow_stuck _) ?_
     first
      | (split <;> first
        | exact grow_intBits _ _ _ _
        | exact grow_intCmp _ _ _
        | exact grow_floatCmp _ _ _ _
        | (exfalso; simp at h; done)
        | exact grow_floatArith _ _ _ _)
      | (rcases h with rfl | rfl | rfl | rfl | rfl | rfl | rfl | rfl | rfl <;> exact grow_stuck _))
theorem grow_binOp {op:BinOp} (h:op=.and∨op=.or∨op=.xor∨op=.shl∨op=.shr∨op=.lss∨op=.leq∨op=.gtr∨op=.geq) (t:TypeId) (x y:Operand) (u v:Value) :
  Grow P (do eqGuard op t x y u v; binOp op t u v:Sem Value):=by
 refine grow_bind ?_ fun _=>grow_bare h t u v
 rcases h with rfl | rfl | rfl | rfl | rfl | rfl | rfl | rfl | rfl <;> exact grow_pure _
end
end SE
end
section
namespace SE
variable {X:Px} {own0:Nat→Prop} {w0 w:World} {E:Env} {st:St} {tm:TT} {a:Act}
def YF (P:Program) (ops:Array Oper) (o:Oper) (v:Value) (a:Act) (C:World→Prop):Prop :=
 (Region.wanted o (yielded ops a.tmps)=true∧∀ w,C w→((execOp a.eval o).run P w=.ok (.value v) w∨∃ g args,(execOp a.eval o).run P w=.ok (.enter g args) w∧Calls P g args w (fun e w'=>e=.returned v∧w'=w))) ∨
 (Region.wanted o (yielded ops a.tmps)=false∧v=undef)
section
variable {P:Program} {ops:Array Oper} {Q:Exit→Act→World→Prop} {C:World→Prop}
theorem YF.wpOp {i:Nat} {o:Oper} {v:Value} {a:Act} (hi:ops[i]?=some o) (hy:YF P ops o v a C) {K:Act→World→Prop} {w:World} (hw:C w) (h:K (a.put o.dst v) w):wpOp P ops Q i K a w:=by
 unfold Go.wpOp
 simp only [hi]
 rcases hy with ⟨hw',hv⟩ | ⟨hw',rfl⟩
 ·simp only [hw',if_true]
  refine .inl ?_
  rcases hv w hw with h1 | ⟨g,args,h1,h2⟩
  ·unfold Oper.wp; rw [h1]; exact h
  ·unfold Oper.wp; rw [h1]
   refine Calls.mono h2 fun e w'' he=>?_
   obtain ⟨rfl,rfl⟩:=he
   exact h
 ·simp only [hw',Bool.false_eq_true,if_false]; exact h
theorem YF.of_same {o:Oper} {v:Value} {a a':Act} (hy:YF P ops o v a C) (he:execOp a'.eval o=execOp a.eval o)
  (hw:Region.wanted o (yielded ops a'.tmps)=Region.wanted o (yielded ops a.tmps)):YF P ops o v a' C:=by
 unfold YF at *
 rw [he,hw]
 exact hy
theorem wpOp_putF {j:Nat} {oi oj:Oper} {v:Value} (hj:ops[j]?=some oj) (hap:oi.apart ops oj=true)
  (hsi:∀ cs b,oi.op≠.select cs b) (hsj:∀ cs b,oj.op≠.select cs b) (hQ:∀ c a w,¬ Q (.panic c) a w) (hC:(∀ w,C w)∨∀ (a:Act) w n w',C w→(execOp a.eval oj).run P w=.ok n w'→(∃ u,n=.value u)∧C w')
  {K:Act→World→Prop} {a:Act} {w:World} (hw0:C w)
  (hy:YF P ops oi v a C) (h:wpOp P ops Q j K (a.put oi.dst v) w) :
  wpOp P ops Q j (fun a' w'=>(C w'∧YF P ops oi v a' C)∧K (a'.put oi.dst v) w') a w:=by
 obtain ⟨h1,h2,h3⟩:=Oper.apart_spec hap
 have keep:∀ (a:Act),YF P ops oi v a C→∀ u,YF P ops oi v (a.put oj.dst u) C:=fun a hy u =>
  hy.of_same (execOp_put oi hsi a oj.dst u h3) (wanted_put oi a oj.dst u h3)
 have keepD:∀ d,YF P ops oi v { a with defers:=d::a.defers } C:=fun d=>hy.of_same rfl rfl
 unfold wpOp at *
 simp only [hj] at *
 rw [wanted_put oj a oi.dst v h1] at h
 split
 ·rename_i hw
  simp only [hw,if_true] at h
  rcases h with h | ⟨hasks,hlets⟩
  case inr=>exact .inr ⟨by unfold Oper.asks at *; rw [execOp_put oj hsj a oi.dst v h1] at hasks; exact hasks,hlets⟩
  refine .inl ?_
  unfold Oper.wp at *
  rw [execOp_put oj hsj a oi.dst v h1] at h
  have hc:(∀ w,C w)∨∀ n w',(execOp a.eval oj).run P w=.ok n w'→(∃ u,n=.value u)∧C w':=hC.imp id fun h n w'=>h a w n w' hw0
  clear hC
  generalize (execOp a.eval oj).run P w=r at *
  cases r with
  | ok n w' =>
   rcases hc with hall | hc
   ·cases n <;> simp only [Oper.upon] at h ⊢
    case value u=>exact ⟨⟨hall _,keep a hy u⟩,by rw [← Act.put_comm a v u h2]; exact h⟩
    case skip=>exact ⟨⟨hall _,keep a hy _⟩,by rw [← Act.put_comm a v undef h2]; exact h⟩
    case defer d =>
     refine ⟨⟨hall _,keep _ (keepD d) _⟩,?_⟩
     rw [← Act.put_comm _ v undef h2,← Act.put_defers]
     exact h
    case enter f args =>
     refine Calls.mono h fun e w'' he=>?_
     cases e with
     | returned u=>exact ⟨⟨hall _,keep a hy u⟩,by rw [← Act.put_comm a v u h2]; exact he⟩
     | panicked c=>exact (hQ _ _ _ he).elim
     | outgrown=>exact he
    case row row args=>exact Rows.mono h fun u w'' he=>⟨⟨hall _,keep a hy u⟩,by rw [← Act.put_comm a v u h2]; exact he⟩
   ·obtain ⟨⟨u,rfl⟩,hcw⟩:=hc n w' rfl
    simp only [Oper.upon] at h ⊢
    exact ⟨⟨hcw,keep a hy u⟩,by rw [← Act.put_comm a v u h2]; exact h⟩
  | halt x w' =>
   cases x <;> simp only [Oper.upon] at h ⊢
   case panic u=>exact (hQ _ _ _ h).elim
 ·rename_i hw
  simp only [hw] at h
  exact ⟨⟨hw0,keep a hy _⟩,by rw [← Act.put_comm a v undef h2]; exact h⟩
def Behind (ops:Array Oper) (i:Nat) (D:Nat→Prop):Prop:=∀ j oj,D j→ops[j]?=some oj→∃ e∈oj.after,Region.binds .any e=true∧(e.on=i∨D e.on)
theorem wpAny_hoist {i:Nat} {oi:Oper} {v:Value} {D:Nat→Prop} (hi:ops[i]?=some oi) (hsel:∀ (j:Nat) (o:Oper) cs b,ops[j]?=some o→o.op≠.select cs b) (hQ:∀ c a w,¬ Q (.panic c) a w) (hD:Behind ops i D) :
  ∀ (fuel:Nat) (listed:Array Bool) (a:Act) (w:World),
   (∀ j,D j→listed.getD j false=false) →
   (∀ j oj,ops[j]?=some oj→j≠i→listed.getD j true=false→¬ D j→((∀ e∈oj.after,Region.binds .any e=true→e.on≠i)→oi.apart ops oj=true) ∧
    ((∀ w,C w)∨∀ (a:Act) w n w',C w→(execOp a.eval oj).run P w=.ok n w'→(∃ u,n=.value u)∧C w')) →
   i∈Region.ready .any ops listed→C w→YF P ops oi v a C →
   wpAny P .any ops Q fuel (listed.setIfInBounds i true) (a.put oi.dst v) w→wpAny P .any ops Q (fuel+1) listed a w:=by
 intro fuel
 induction fuel with
 | zero =>
  intro listed a w hDl hfree hr hw hy H
  refine ⟨fun h=>(by rw [h] at hr; cases hr),fun j hj=>?_⟩
  by_cases hji:j=i
  ·subst hji; exact hy.wpOp hi hw H
  ·have:=ready_mono hj hji
   rw [H.1] at this
   cases this
 | succ fuel ih =>
  intro listed a w hDl hfree hr hw hy H
  refine ⟨fun h=>(by rw [h] at hr; cases hr),fun j hj=>?_⟩
  by_cases hji:j=i
  ·subst hji; exact hy.wpOp hi hw H
  ·have h1:=H.2 j (ready_mono hj hji)
   obtain ⟨hjun,oj,hoj,hall⟩:=mem_ready.1 hj
   have hiun:listed.getD i false=false:=by
    have h0:=(mem_ready.1 hr).1
    rcases Nat.lt_or_ge i listed.size with h' | h'
    ·simp [h'] at h0 ⊢; exact h0
    ·simp [Array.getElem?_eq_none h']
   have hnot:∀ e∈oj.after,Region.binds .any e=true→e.on≠i:=fun e he hb heq=>by
    have h1:=hall e he hb
    rw [heq,hiun] at h1
    cases h1
   have hjD:¬ D j:=fun hd=>by
    obtain ⟨e,he,hb,hor⟩:=hD j oj hd hoj
    rcases hor with heq | hd2
    ·exact hnot e he hb heq
    ·have:=hall e he hb
     rw [hDl _ hd2] at this
     cases this
   obtain ⟨hap,hst⟩:=hfree j oj hoj hji hjun hjD
   have h2:=wpOp_putF hoj (hap hnot) (fun cs b=>hsel i oi cs b hi) (fun cs b=>hsel j oj cs b hoj) hQ hst hw hy h1
   refine wpOp_mono (fun a' w' h3=>ih (listed.setIfInBounds j true) a' w' ?_ ?_ (ready_mono hr (Ne.symm hji)) h3.1.1 h3.1.2 ?_) h2
   ·intro k hk
    rw [getD_set_ne false (fun hh:j=k=>hjD (by rw [hh]; exact hk))]
    exact hDl k hk
   ·intro k ok hk hki hun hnd
    refine hfree k ok hk hki ?_ hnd
    by_cases hjk:j=k
    ·subst hjk; exact hjun
    ·rw [getD_set_ne true hjk] at hun; exact hun
   ·rw [Array.setIfInBounds_comm _ _ hji]
    exact h3.2
structure LM (ops:Array Oper) (m:Nat) (listed:Array Bool):Prop where
 size:listed.size=ops.size
 bit:∀ i,listed.getD i false=m.testBit i
theorem LM.zero (ops:Array Oper):LM ops 0 (Array.replicate ops.size false):=⟨by simp,fun i=>by
 rcases Nat.lt_or_ge i ops.size with h | h
 ·simp [h]
 ·simp [h]⟩
theorem LM.set {m i:Nat} {listed:Array Bool} (h:LM ops m listed) (hi:i<ops.size):LM ops (m ||| (1 <<< i)) (listed.setIfInBounds i true):=by
 refine ⟨by simp [h.size],fun j=>?_⟩
 rw [Nat.testBit_or,Nat.one_shiftLeft,Nat.testBit_two_pow]
 by_cases hij:i=j
 ·subst hij
  simp [h.size,hi]
 ·rw [getD_set_ne false hij,h.bit]
  simp [hij]
theorem LM.bitT {m i:Nat} {listed:Array Bool} (h:LM ops m listed) (hi:i<ops.size):listed.getD i true=m.testBit i:=by
 rw [← h.bit]
 have:i<listed.size:=by rw [h.size]; exact hi
 simp [this]
theorem edgesIn_iff {m:Nat}:∀ {l:List Edge},edgesIn m l=true↔∀ e∈l,Region.binds .any e=true→m.testBit e.on=true
 | []=>by simp [edgesIn]
 | e::l=>by
  simp only [edgesIn,Bool.and_eq_true,edgesIn_iff (l:=l),List.forall_mem_cons]
  cases Region.binds .any e <;> simp
theorem readyS_iff {m i:Nat} {o:Oper} {listed:Array Bool} (h:LM ops m listed) (ho:ops[i]?=some o):readyS m i o=true↔i∈Region.ready .any ops listed:=by
 have hi:i<ops.size:=(Array.getElem?_eq_some_iff.1 ho).1
 rw [mem_ready,h.bitT hi]
 simp only [readyS,Bool.and_eq_true,Bool.not_eq_true',edgesIn_iff]
 constructor
 ·rintro ⟨h1,h2⟩
  exact ⟨h1,o,ho,fun e he hb=>by rw [h.bit]; exact h2 e (by simpa using he) hb⟩
 ·rintro ⟨h1,o',ho',h2⟩
  rw [ho] at ho'
  cases ho'
  exact ⟨h1,fun e he hb=>by rw [← h.bit]; exact h2 e (by simpa using he) hb⟩
theorem readies_mem {m:Nat}:∀ {l:List Oper} {k j:Nat} {o:Oper},(j,o)∈readies m k l↔∃ i,l[i]?=some o∧j=k+i∧readyS m j o=true
 | [],k,j,o=>by simp [readies]
 | x::l,k,j,o=>by
  have ih:=readies_mem (m:=m) (l:=l) (k:=k+1) (j:=j) (o:=o)
  have key:(∃ i,(x::l)[i]?=some o∧j=k+i∧readyS m j o=true)↔(x=o∧j=k∧readyS m j o=true)∨∃ i,l[i]?=some o∧j=k+1+i∧readyS m j o=true:=by
   constructor
   ·rintro ⟨i,h1,h2,h3⟩
    cases i with
    | zero=>simp at h1; exact .inl ⟨h1,by omega,h3⟩
    | succ i=>simp at h1; exact .inr ⟨i,h1,by omega,h3⟩
   ·rintro (⟨h1,h2,h3⟩ | ⟨i,h1,h2,h3⟩)
    ·exact ⟨0,by simp [h1],by omega,h3⟩
    ·exact ⟨i+1,by simpa using h1,by omega,h3⟩
  rw [key]
  simp only [readies]
  cases hr:readyS m k x with
  | true =>
   simp only [cond_true,List.mem_cons,Prod.mk.injEq,ih]
   constructor
   ·rintro (⟨rfl,rfl⟩ | h)
    ·exact .inl ⟨rfl,rfl,hr⟩
    ·exact .inr h
   ·rintro (⟨rfl,rfl,_⟩ | h)
    ·exact .inl ⟨rfl,rfl⟩
    ·exact .inr h
  | false =>
   simp only [cond_false,ih]
   constructor
   ·exact .inr
   ·rintro (⟨rfl,rfl,h⟩ | h)
    ·rw [hr] at h; cases h
    ·exact h
theorem readies_ready {m:Nat} {listed:Array Bool} (h:LM ops m listed) (j:Nat):j∈Region.ready .any ops listed↔∃ o,ops[j]?=some o∧(j,o)∈readies m 0 ops.toList:=by
 constructor
 ·intro hj
  obtain ⟨_,o,ho,_⟩:=mem_ready.1 hj
  exact ⟨o,ho,readies_mem.2 ⟨j,by simpa using ho,by omega,(readyS_iff h ho).2 hj⟩⟩
 ·rintro ⟨o,ho,hm⟩
  obtain ⟨i,h1,h2,h3⟩:=readies_mem.1 hm
  exact (readyS_iff h ho).1 h3
theorem readies_nil {m:Nat} {listed:Array Bool} (h:LM ops m listed) (hr:readies m 0 ops.toList=[]):Region.ready .any ops listed=[]:=by
 apply List.eq_nil_iff_forall_not_mem.2
 intro j hj
 obtain ⟨o,_,hm⟩:=(readies_ready h j).1 hj
 rw [hr] at hm
 cases hm
theorem noSel_ok:∀ {l:List Oper},noSel l=true→∀ o∈l,∀ cs b,o.op≠.select cs b
 | [],_,o,ho=>by cases ho
 | x::l,h,o,ho=>by
  intro cs b
  simp only [noSel,Bool.and_eq_true] at h
  rcases List.mem_cons.1 ho with rfl | ho
  ·intro he
   rw [he] at h
   cases h.1
  ·exact noSel_ok h.2 o ho cs b
theorem nth_eq {α:Type}:∀ (l:List α) (j:Nat),nth l j=l[j]?
 | [],j=>by simp [nth]
 | x::l,0=>by simp [nth]
 | x::l,j+1=>by simp [nth,nth_eq l j]
theorem opTmps_mem {t:Nat}:∀ {l:List Operand},t∈opTmps l↔.tmp t∈l
 | []=>by simp [opTmps]
 | x::l=>by
  have ih:=opTmps_mem (t:=t) (l:=l)
  cases x <;> simp [opTmps,ih]
theorem looks_mem {o:Oper} {t:Nat}:t∈looks ops.toList o↔t∈o.looksAt ops:=by
 have hop:t∈opTmps o.op.operands.toList↔t∈o.op.operands.toList.filterMap fun | .tmp t=>some t | _=>none:=by
  rw [opTmps_mem,List.mem_filterMap]
  constructor
  ·intro h; exact ⟨_,h,rfl⟩
  ·rintro ⟨x,hx,he⟩
   cases x <;> simp at he
   subst he
   exact hx
 unfold looks Oper.looksAt
 cases hg:o.guard with
 | none=>simp only [List.append_nil]; exact hop
 | some q =>
  obtain ⟨g,want⟩:=q
  simp only [nth_eq,Array.getElem?_toList]
  cases hj:ops[g]? with
  | none=>simp only [Option.bind_none,Option.toList_none,List.append_nil]; exact hop
  | some og =>
   simp only [Option.bind_some]
   cases hd:og.dst with
   | none=>simp only [Option.toList_none,List.append_nil]; exact hop
   | some d =>
    simp only [Option.toList_some,List.mem_append,List.mem_cons,List.not_mem_nil,or_false,hop]
    exact or_comm
theorem hasN_iff {l:List Nat} {d:Nat}:hasN l d=true↔d∈l:=by
 induction l with
 | nil=>simp [hasN]
 | cons x l ih =>
  simp only [hasN]
  cases h:Nat.beq x d with
  | true=>have:=nbeq h; subst this; simp
  | false=>have:=nbeq_false h; simp [ih,Ne.symm this]
theorem apartS_ok {x y:Oper} (h:apartS (x.dst,looks ops.toList x) (y.dst,looks ops.toList y)=true):x.apart ops y=true:=by
 have hh:∀ (o:Oper) d,hasN (looks ops.toList o) d=(o.looksAt ops).contains d:=fun o d=>by
  rw [Bool.eq_iff_iff,hasN_iff,looks_mem]; simp
 simp only [apartS,Bool.and_eq_true] at h
 unfold Oper.apart
 rw [Bool.and_eq_true]
 constructor
 ·have:=h.1
  cases hx:x.dst with
  | none=>rfl
  | some d =>
   simp only [hx,hh] at this
   simp only [Bool.and_eq_true] at this ⊢
   refine ⟨this.1,?_⟩
   have h2:=this.2
   cases hy:y.dst with
   | none=>simp
   | some d' =>
    simp only [hy,Bool.not_eq_true'] at h2
    have:=nbeq_false h2
    simp [this]
 ·have:=h.2
  cases hy:y.dst with
  | none=>rfl
  | some d=>simp only [hy,hh] at this; simpa using this
theorem infs_get:∀ {l:List Oper} {j:Nat} {o:Oper},l[j]?=some o→(infs ops.toList l)[j]?=some ((o.dst,looks ops.toList o),o.after.toList)
 | [],j,o,h=>by simp at h
 | x::l,0,o,h=>by simp at h; subst h; simp [infs]
 | x::l,j+1,o,h=>by simp at h; simpa [infs] using infs_get h
theorem onEdge_iff {i:Nat}:∀ {l:List Edge},onEdge i l=true↔∃ e∈l,e.on=i∧Region.binds .any e=true
 | []=>by simp [onEdge]
 | e::l=>by
  have ih:=onEdge_iff (i:=i) (l:=l)
  simp only [onEdge,List.mem_cons,exists_eq_or_imp,← ih]
  cases h1:Nat.beq e.on i with
  | true =>
   have:=nbeq h1
   cases Region.binds .any e <;> simp [this]
  | false =>
   have:=nbeq_false h1
   simp [this]
theorem freeS_ok {m i:Nat} {x:Inf}:∀ {l:List (Inf×List Edge)} {k:Nat},freeS m i x k l=true→∀ j y es,l[j]?=some (y,es)→k+j≠i→m.testBit (k+j)=false→onEdge i es=false→apartS x y=true
 | [],k,h,j,y,es,hj=>by simp at hj
 | (z,es')::l,k,h,j,y,es,hj=>by
  intro h1 h2 h3
  simp only [freeS,Bool.and_eq_true,Bool.or_eq_true] at h
  cases j with
  | zero =>
   simp at hj
   obtain ⟨rfl,rfl⟩:=hj
   rcases h.1 with h4 | h4 | h4 | h4
   ·exact absurd (nbeq h4).symm (by simpa using h1)
   ·rw [Nat.add_zero] at h2; rw [h2] at h4; cases h4
   ·rw [h3] at h4; cases h4
   ·exact h4
  | succ j =>
   exact freeS_ok h.2 j y es (by simpa using hj) (by omega) (by rw [show k+1+j=k+(j+1) by omega]; exact h2) h3
theorem onAny_iff {i D:Nat}:∀ {l:List Edge},onAny i D l=true↔∃ e∈l,(e.on=i∨D.testBit e.on=true)∧Region.binds .any e=true
 | []=>by simp [onAny]
 | e::l=>by
  have ih:=onAny_iff (i:=i) (D:=D) (l:=l)
  simp only [onAny,List.mem_cons,exists_eq_or_imp,← ih]
  cases h1:Nat.beq e.on i with
  | true =>
   have:=nbeq h1
   cases Region.binds .any e <;> simp [this]
  | false =>
   have:=nbeq_false h1
   cases D.testBit e.on <;> cases Region.binds .any e <;> simp [this]
theorem descOk_ok {i D:Nat}:∀ {l:List Oper} {k:Nat},descOk i D k l=true→∀ j o,l[j]?=some o→D.testBit (k+j)=true→onAny i D o.after.toList=true
 | [],k,h,j,o,hj=>by simp at hj
 | x::l,k,h,j,o,hj=>by
  intro hd
  simp only [descOk,Bool.and_eq_true,Bool.or_eq_true,Bool.not_eq_true'] at h
  cases j with
  | zero =>
   simp at hj
   subst hj
   rw [Nat.add_zero] at hd
   rcases h.1 with h4 | h4
   ·rw [hd] at h4; cases h4
   ·exact h4
  | succ j=>exact descOk_ok h.2 j o (by simpa using hj) (by rw [show k+1+j=k+(j+1) by omega]; exact hd)
theorem quietBut_ok {T:Tb} {i m D:Nat}:∀ {l:List Oper} {k:Nat},quietBut T i m D k l=true→∀ j o,l[j]?=some o→k+j≠i→m.testBit (k+j)=false→D.testBit (k+j)=false→stillOp T o.op=true
 | [],k,h,j,o,hj=>by simp at hj
 | x::l,k,h,j,o,hj=>by
  intro h1 h2 h3
  simp only [quietBut,Bool.and_eq_true,Bool.or_eq_true] at h
  cases j with
  | zero =>
   simp at hj
   subst hj
   rw [Nat.add_zero] at h1 h2 h3
   rcases h.1 with h4 | h4 | h4 | h4
   ·exact absurd (nbeq h4).symm h1
   ·rw [h2] at h4; cases h4
   ·rw [h3] at h4; cases h4
   ·exact h4
  | succ j=>exact quietBut_ok h.2 j o (by simpa using hj) (by omega) (by rw [show k+1+j=k+(j+1) by omega]; exact h2) (by rw [show k+1+j=k+(j+1) by omega]; exact h3)
end
end SE
end
section
namespace SE
variable {X:Px} {own0:Nat→Prop} {w0 w:World} {E:Env} {st:St} {tm:TT} {a:Act}
theorem vgrow {P:Program} {s:Sem Value} (h:Grow P s) {w w':World} {n:Next} (e:(do pure (Next.value (← s)):Sem Next).run P w=.ok n w'):(∃ u,n=.value u)∧Ext0 w w':=by
 rw [Sem.run_bind] at e
 cases hs:s.run P w with
 | ok x w1=>rw [hs] at e; cases e; exact ⟨⟨x,rfl⟩,h w x _ hs⟩
 | halt q w1=>rw [hs] at e; cases e
theorem intT_ok (hT:TabOk X) {t:Nat} (h:intT X.T t=true):∃ k,X.P.underlying t=some (.int k):=by
 unfold intT at h
 cases hty:X.T.ty.get t with
 | none=>simp only [hty] at h; cases h
 | some y =>
  obtain ⟨d,i,hd,hi,hs,hu⟩:=typ_some hT hty
  simp only [hty] at h
  cases hund:y.und <;> simp only [hund] at h <;> try cases h
  rw [hund] at hu
  cases d <;> simp [UDok] at hu
  exact ⟨_,hd⟩
theorem grow_convII {P:Program} {s d:TypeId} {j k:IntKind} (h1:P.underlying s=some (.int j)) (h2:P.underlying d=some (.int k)) (x:Value):Grow P (convert s d x):=by
 intro w y w' e
 unfold convert at e
 rw [Sem.run_bind,und_run h1,Result.andThen_ok,Sem.run_bind,und_run h2,Result.andThen_ok] at e
 cases x with
 | int l n=>simp only [Conv.intToInt,Sem.run_pure] at e; cases e; exact Ext0.refl w
 | float l b =>
  simp only at e
  have hg:Grow P (Conv.floatToInt l b k):=by
   unfold Conv.floatToInt
   repeat' (first
    | exact grow_pure _ | exact grow_pure' _ | exact grow_stuck _ | exact grow_unsup _
    | exact grow_choose _ | exact grow_program
    | exact grow_map (grow_choose _)
    | refine grow_bind ?_ fun _=>?_
    | split
    | dsimp only)
  exact hg w y w' e
 | pointer p=>cases p <;> simp at e
 | _=>simp at e
theorem grow_followBlind {P:Program}:∀ (l:List FieldStep) (t:TypeId) (x:Option Value),Grow P (followBlind l t x)
 | [],t,x=>by unfold followBlind; exact grow_pure _
 | s::rest,t,x=>by
  unfold followBlind
  have ih:=fun t x=>grow_followBlind (P:=P) rest t x
  repeat' (first
  | exact grow_pure _ | exact grow_pure' _ | exact grow_stuck _ | exact grow_unsup _
  | exact grow_underlying _ | exact grow_typeInfo _ | exact grow_program | exact grow_part _ _ _
  | exact ih _ _
  | refine grow_bind ?_ fun _=>?_
  | split
  | dsimp only)
theorem grow_nilAhead {P:Program}:∀ (n:Nat) (t:TypeId) (v:Value) (s:String),Grow P (nilAhead n t v s)
 | 0,t,v,s=>by unfold nilAhead; exact grow_pure _
 | n+1,t,v,s=>by
  unfold nilAhead
  have ih:=fun t v s=>grow_nilAhead (P:=P) n t v s
  have ih2:=fun l t x=>grow_followBlind (P:=P) l t x
  repeat' (first
  | exact grow_pure _ | exact grow_pure' _ | exact grow_stuck _ | exact grow_unsup _
  | exact grow_underlying _ | exact grow_typeInfo _ | exact grow_program | exact grow_part _ _ _
  | exact ih _ _ _ | exact ih2 _ _ _
  | refine grow_bind ?_ fun _=>?_
  | split
  | dsimp only)
theorem still_ok (hT:TabOk X) {o:Oper} (h:stillOp X.T o.op=true):∀ (a:Act) w n w',(execOp a.eval o).run X.P w=.ok n w'→(∃ u,n=.value u)∧Ext0 w w':=by
 obtain ⟨dst,op,type,pos,after,guard⟩:=o
 intro a w n w' e
 cases op <;> simp only [stillOp,Bool.false_eq_true] at h <;> simp only [execOp] at e
 case move x=>cases e; exact ⟨⟨_,rfl⟩,Ext0.refl w⟩
 case assign x=>cases e; exact ⟨⟨_,rfl⟩,Ext0.refl w⟩
 case pick c x y =>
  rw [Sem.run_bind] at e
  cases hb:(asBool (a.eval c)).run X.P w with
  | ok b w1 =>
   rw [hb] at e
   cases e
   exact ⟨⟨_,rfl⟩,grow_asBool _ w b _ hb⟩
  | halt q w1=>rw [hb] at e; cases e
 case alloc t=>exact vgrow (grow_alloc t) e
 case box t x=>exact vgrow (grow_box t _) e
 case build t ps=>exact vgrow (grow_build t _) e
 case buildSlice t n ps=>exact vgrow (grow_buildSlice t n _) e
 case load t x=>exact vgrow (grow_loadAt t _) e
 case nilCheck x =>
  have hrp:(runtimePanic .nilDeref:Sem Next).run X.P w=.ok n w'→False:=by
   intro he
   simp [runtimePanic] at he
  split at e
  ·exact (hrp e).elim
  ·exact (hrp e).elim
  ·exact (hrp e).elim
  ·split at e
   ·exact (hrp e).elim
   ·rename_i t v _
    rw [Sem.run_bind] at e
    simp only [run_program,Result.andThen_ok,Sem.run_bind] at e
    cases hn:(nilAhead (X.P.types.size+Made.depth) t v ‹_›).run X.P w with
    | halt q w1=>rw [hn] at e; cases e
    | ok r w1 =>
     rw [hn] at e
     simp only [Result.andThen_ok] at e
     split at e
     ·simp at e
     ·simp only [Sem.run_pure] at e
      cases e
      exact ⟨⟨_,rfl⟩,grow_nilAhead _ _ _ _ w r _ hn⟩
   ·cases e; exact ⟨⟨_,rfl⟩,Ext0.refl w⟩
  ·cases e; exact ⟨⟨_,rfl⟩,Ext0.refl w⟩
 case binOp op t x y yt =>
  refine vgrow ?_ e
  cases op <;> simp only [stillOp,Bool.false_eq_true] at h <;> exact grow_binOp (by simp) t x y _ _
 case unOp op t x=>exact vgrow (grow_unary op _) e
 case convert s d x =>
  simp only [Bool.and_eq_true] at h
  obtain ⟨j,h1⟩:=intT_ok hT h.1
  obtain ⟨k,h2⟩:=intT_ok hT h.2
  exact vgrow (grow_convII h1 h2 _) e
 case makeFunc fn x y=>exact vgrow (grow_pure _) e
 case fieldAddr s x f=>exact vgrow (grow_fieldAt s _ f) e
 case field s x f=>exact vgrow (grow_field s _ f) e
 case indexAddr t x i=>exact vgrow (grow_indexAt t _ _) e
 case index t x i=>exact vgrow (grow_index t _ _) e
 case extract x i=>exact vgrow (grow_extract _ i) e
theorem forked_ok (g:G X own0 w0 E st w) (f:FOk E tm a) {ops:Array Oper} {o:Oper} {F:Bool→Sx→Option (List Sx)} {l:List Sx} (e:forked ops.toList (tm,st) o F=some l) :
  ∃ b tm' st' l',Region.wanted o (yielded ops a.tmps)=b∧G X own0 w0 E st' w∧FOk E tm' a∧F b (tm',st')=some l'∧∀ x∈l',x∈l:=by
 unfold forked at e
 have hg:=guardS_ok g f (ops:=ops) (o:=o)
 cases hgd:guardS ops.toList tm st o with
 | run=>rw [hgd] at hg; simp only [hgd] at e; exact ⟨true,tm,st,l,hg,g,f,e,fun _ h=>h⟩
 | skip=>rw [hgd] at hg; simp only [hgd] at e; exact ⟨false,tm,st,l,hg,g,f,e,fun _ h=>h⟩
 | bad=>simp only [hgd] at e; cases e
 | fork t want =>
  rw [hgd] at hg
  obtain ⟨b,hb,hv,hw⟩:=hg
  simp only [hgd,setK_eq,fSt_eq,fStM_eq,fStT_eq] at e
  obtain ⟨st',ha,g'⟩:=assumeL_ok g hb
  have f':FOk E (tm.set t (ofB b)) a:=f.refine t (ofB_slot hv)
  by_cases hbw:b=want
  ·subst hbw
   cases h1:bindL (fun st'=>F true (tm.set t (ofB b),st')) (assumeL st (tm.get t) b) with
   | none=>simp only [h1] at e; cases e
   | some l1 =>
    simp only [h1] at e
    obtain ⟨m,hm1,hm2⟩:=bindL_mem h1 st' ha
    refine ⟨true,_,st',m,by rw [hw]; simp,g',f',hm1,fun x hx=>?_⟩
    revert e
    split
    ·intro e; cases e; exact List.mem_append_left _ (hm2 x hx)
    ·intro e; cases e
  ·have hbw':b=!want:=by cases b <;> cases want <;> simp at hbw ⊢
   have hbe:(b == want)=false:=by cases b <;> cases want <;> simp at hbw ⊢
   revert e
   split
   ·rename_i l1 _
    split
    ·rename_i l2 h2
     intro e
     cases e
     rw [← hbw'] at h2
     obtain ⟨m,hm1,hm2⟩:=bindL_mem h2 st' ha
     exact ⟨false,_,st',m,by rw [hw,hbe],g',f',hm1,fun x hx=>List.mem_append_right _ (hm2 x hx)⟩
    ·intro e; cases e
   ·intro e; cases e
theorem hoistI_ok {T:Tb} {all:List Oper} {inf:List (Inf×List Edge)} {m:Nat}:∀ {l:List Oper} {xs:List (Inf×List Edge)} {k i:Nat} {o:Oper} {b:Bool},hoistI T all inf m k l xs=some (i,o,b) →
  ∃ j x,i=k+j∧l[j]?=some o∧xs[j]?=some x∧hoistK T all inf m i o x.1=(if b then .pure else .load)
 | [],xs,k,i,o,b,h=>by simp [hoistI] at h
 | o'::l,[],k,i,o,b,h=>by simp [hoistI] at h
 | o'::l,x::xs,k,i,o,b,h=>by
  simp only [hoistI,fN_eq] at h
  cases hk:hoistK T all inf m k o' x.1 with
  | pure=>simp only [hk] at h; cases h; exact ⟨0,x,rfl,rfl,rfl,hk⟩
  | load=>simp only [hk] at h; cases h; exact ⟨0,x,rfl,rfl,rfl,hk⟩
  | no =>
   simp only [hk] at h
   obtain ⟨j,y,h1,h2,h3,h4⟩:=hoistI_ok h
   exact ⟨j+1,y,by omega,by simpa using h2,by simpa using h3,h4⟩
theorem alts_ok {T:Tb} {call:Nat→List SV→St→Option Out} {ops:List Oper} {F:Nat→Plan} {m:Nat} {s:Sx}:∀ {rs:List (Nat×Oper)} {l:List Sx},runPlan T call ops (alts F m rs) s=some l →
  ∀ i o,(i,o)∈rs→∃ r l',gStep T call ops s.1 s.2 o=some r∧bindL (runPlan T call ops (F (m ||| (1 <<< i)))) r=some l'∧∀ x∈l',x∈l
 | [],l,e,i,o,h=>by cases h
 | (j,o')::rs,l,e,i,o,h=>by
  simp only [alts,runPlan,setBit,fN_eq] at e
  cases h1:gStep T call ops s.1 s.2 o' with
  | none=>simp only [h1] at e; cases e
  | some r =>
   simp only [h1] at e
   cases h2:bindL (runPlan T call ops (F (m ||| (1 <<< j)))) r with
   | none=>simp only [h2] at e; cases e
   | some l1 =>
    simp only [h2] at e
    cases h3:runPlan T call ops (alts F m rs) s with
    | none=>simp only [h3] at e; cases e
    | some l2 =>
     simp only [h3,Option.some.injEq] at e
     subst e
     rcases List.mem_cons.1 h with he | h
     ·cases he
      exact ⟨r,l1,h1,h2,fun x hx=>List.mem_append_left _ hx⟩
     ·obtain ⟨r',l',q1,q2,q3⟩:=alts_ok h3 i o h
      exact ⟨r',l',q1,q2,fun x hx=>List.mem_append_right _ (q3 x hx)⟩
theorem plan_ok (hT:TabOk X) (hP:PkOk X) (hR:RkOk X) {call:Nat→List SV→St→Option Out} (hC:CallOk X own0 w0 call) {ops:Array Oper} {Q:Exit→Act→World→Prop} (hQ:∀ c a w,¬ Q (.panic c) a w)
  (hsel:noSel ops.toList=true):∀ (k:Nat) {m:Nat} {listed:Array Bool} {E:Env} {s:Sx} {a:Act} {w:World} {l:List Sx},LM ops m listed →
   runPlan X.T call ops.toList (mkPlan X.T ops.toList (infs ops.toList ops.toList) k m) s=some l→G X own0 w0 E s.2 w→FOk E s.1 a→Post X own0 w0 E l (Q .normal)→wpAny X.P .any ops Q k listed a w
 | 0,m,listed,E,s,a,w,l,hL,e,g,f,hl=>by
  simp only [mkPlan] at e
  cases hr:readies m 0 ops.toList with
  | nil =>
   simp only [hr,runPlan,Option.some.injEq] at e
   subst e
   exact ⟨readies_nil hL hr,hl s (by simp) E a w (Env.le_refl E) g f⟩
  | cons x xs=>simp only [hr,runPlan] at e; cases e
 | k+1,m,listed,E,s,a,w,l,hL,e,g,f,hl=>by
  have hselA:∀ (j:Nat) (o:Oper) cs b,ops[j]?=some o→o.op≠.select cs b:=fun j o cs b ho=>noSel_ok hsel o (by
   rw [← Array.getElem?_toList] at ho
   exact List.mem_of_getElem? ho) cs b
  simp only [mkPlan] at e
  cases hh:hoistI X.T ops.toList (infs ops.toList ops.toList) m 0 ops.toList (infs ops.toList ops.toList) with
  | none =>
   simp only [hh] at e
   cases hr:readies m 0 ops.toList with
   | nil =>
    simp only [hr,runPlan,Option.some.injEq] at e
    subst e
    exact wpAny_done (readies_nil hL hr) (hl s (by simp) E a w (Env.le_refl E) g f) _
   | cons x xs =>
    simp only [hr] at e
    rw [← hr] at e
    refine ⟨fun h0=>?_,fun i hi=>?_⟩
    ·exfalso
     have hx:x∈readies m 0 ops.toList:=by rw [hr]; simp
     obtain ⟨xi,xo⟩:=x
     obtain ⟨j,h1,h2,h3⟩:=readies_mem.1 hx
     have ho:ops[xi]?=some xo:=by rw [h2,Nat.zero_add]; simpa using h1
     have:=(readyS_iff hL ho).1 h3
     rw [h0] at this
     cases this
    ·obtain ⟨o,ho,hm⟩:=(readies_ready hL i).1 hi
     obtain ⟨r,l',h1,h2,h3⟩:=alts_ok e i o hm
     have hlt:i<ops.size:=(Array.getElem?_eq_some_iff.1 ho).1
     have hw:=gStep_wp hT hP hR hC (Q:=Q) g f h1 (K:=wpAny X.P .any ops Q k (listed.setIfInBounds i true)) (fun s' hs' E' a' w' hle g' f'=>by
      obtain ⟨r2,hr2,hr3⟩:=bindL_mem h2 s' hs'
      exact plan_ok hT hP hR hC hQ hsel k (hL.set hlt) hr2 g' f' (hl.mono hle fun x hx=>h3 x (hr3 x hx)))
     unfold Go.wpOp
     simp only [ho]
     split
     ·rename_i hwd; rw [if_pos hwd] at hw; exact .inl hw
     ·rename_i hwd; rw [if_neg hwd] at hw; exact hw
  | some q =>
   obtain ⟨i,o,b⟩:=q
   obtain ⟨j,x,h1,h2,h3,h4⟩:=hoistI_ok hh
   rw [Nat.zero_add] at h1
   subst h1
   have ho:ops[i]?=some o:=by simpa using h2
   have hlt:i<ops.size:=(Array.getElem?_eq_some_iff.1 ho).1
   have hx:x=((o.dst,looks ops.toList o),o.after.toList):=by
    rw [infs_get h2] at h3
    exact (Option.some.inj h3).symm
   subst hx
   have hready:readyS m i o=true∧freeS m i (o.dst,looks ops.toList o) 0 (infs ops.toList ops.toList)=true:=by
    unfold hoistK at h4
    cases hc:(readyS m i o&&freeS m i (o.dst,looks ops.toList o) 0 (infs ops.toList ops.toList)) with
    | true=>simpa using hc
    | false=>simp only [hc,cond_false] at h4; cases b <;> cases h4
   have hrd:=(readyS_iff hL ho).1 hready.1
   have hap:∀ j oj,ops[j]?=some oj→j≠i→listed.getD j true=false→(∀ e∈oj.after,Region.binds .any e=true→e.on≠i)→o.apart ops oj=true:=by
    intro j oj hj hji hun hno
    have hjl:j<ops.size:=(Array.getElem?_eq_some_iff.1 hj).1
    have hj':ops.toList[j]?=some oj:=by simpa using hj
    refine apartS_ok (freeS_ok hready.2 j _ _ (infs_get hj') (by omega) (by rw [Nat.zero_add,← hL.bitT hjl]; exact hun) ?_)
    cases he:onEdge i oj.after.toList with
    | false=>rfl
    | true =>
     obtain ⟨e,he1,he2,he3⟩:=onEdge_iff.1 he
     exact absurd he2 (hno e (by simpa using he1) he3)
   cases b with
   | true =>
    simp only [hh,runPlan,setBit,fN_eq,fV_eq,putK_eq,fSt_eq,fStM_eq,fStT_eq] at e
    obtain ⟨b,tm',st',l',hwd,g',f',hF,hsub⟩:=forked_ok (tm:=s.1) (st:=s.2) g f e
    have key:∀ {v:Value} {E':Env} {sv:SV} {st2:St},YF X.P ops o v a (fun _=>True)→E.le E'→R E' sv v→G X own0 w0 E' st2 w →
      runPlan X.T call ops.toList (mkPlan X.T ops.toList (infs ops.toList ops.toList) k (m ||| (1 <<< i))) (putD tm' o.dst sv,st2)=some l'→wpAny X.P .any ops Q (k+1) listed a w:=by
     intro v E' sv st2 hy hle hv g2 hrun
     refine wpAny_hoist (C:=fun _=>True) (D:=fun _=>False) ho hselA hQ (fun j oj hd=>hd.elim) k listed a w (fun j hd=>hd.elim) (fun j oj hj hji hun _=>⟨hap j oj hj hji hun,.inl fun _=>trivial⟩) hrd trivial hy ?_
     exact plan_ok hT hP hR hC hQ hsel k (hL.set hlt) hrun g2 ((f'.mono hle).put o.dst hv) (hl.mono hle hsub)
    cases b with
    | false =>
     simp only [cond_false] at hF
     exact key (.inr ⟨hwd,rfl⟩) (Env.le_refl E) (sv:=.tup []) (R_undef _) g' hF
    | true =>
     simp only [cond_true] at hF
     cases hp:pureOp X.T tm' st' o.op with
     | some sv =>
      simp only [hp] at hF
      obtain ⟨v,hv,hy⟩:=pureOp_ok hT hP g' f' hp
      refine key (.inl ⟨hwd,fun w _=>?_⟩) (Env.le_refl E) hv g' hF
      rcases hy with hy | ⟨gg,args,hy1,hy2⟩
      ·exact .inl (hy w)
      ·exact .inr ⟨gg,args,hy1 w,hy2 w⟩
     | none =>
      simp only [hp] at hF
      cases hn:nameOp X.T tm' st' o.op with
      | none=>simp only [hn] at hF; cases hF
      | some q =>
       obtain ⟨sv,st2⟩:=q
       simp only [hn] at hF
       obtain ⟨v,E',hle,hv,hy,hg⟩:=nameOp_ok hT g' f' hn
       refine key (.inl ⟨hwd,fun w _=>?_⟩) hle hv (hg w g') hF
       rcases hy with hy | ⟨gg,args,hy1,hy2⟩
       ·exact .inl (hy w)
       ·exact .inr ⟨gg,args,hy1 w,hy2 w⟩
   | false =>
    have hD:∃ D:Nat,quietBut X.T i m D 0 ops.toList=true∧descOk i D 0 ops.toList=true∧noDone m D=true:=by
     unfold hoistK at h4
     simp only [hready.1,hready.2,Bool.and_self,cond_true,fN_eq] at h4
     cases hpk:pureKind X.T o.op with
     | true=>simp only [hpk,cond_true] at h4; cases h4
     | false =>
      simp only [hpk,cond_false] at h4
      cases hrk:readKind X.T o.op with
      | false=>simp only [hrk,cond_false] at h4; cases h4
      | true =>
       simp only [hrk,cond_true] at h4
       cases hc:(quietBut X.T i m (descS i 0 (infs ops.toList ops.toList) 0) 0 ops.toList&&(descOk i (descS i 0 (infs ops.toList ops.toList) 0) 0 ops.toList&&noDone m (descS i 0 (infs ops.toList ops.toList) 0))) with
       | false=>simp only [hc,cond_false] at h4; cases h4
       | true=>simp only [Bool.and_eq_true] at hc; exact ⟨_,hc.1,hc.2.1,hc.2.2⟩
    obtain ⟨D,hq,hdo,hnd⟩:=hD
    have hnd':=nbeq hnd
    simp only [hh,runPlan,setBit,fN_eq,fV_eq,putK_eq,fSt_eq,fStM_eq,fStT_eq] at e
    obtain ⟨b,tm',st',l',hwd,g',f',hF,hsub⟩:=forked_ok (tm:=s.1) (st:=s.2) g f e
    have hbeh:Behind ops i (fun j=>D.testBit j=true):=by
     intro j oj hd hj
     have hj':ops.toList[j]?=some oj:=by simpa using hj
     obtain ⟨e,he1,he2,he3⟩:=onAny_iff.1 (descOk_ok hdo j oj hj' (by rw [Nat.zero_add]; exact hd))
     exact ⟨e,by simpa using he1,he3,he2⟩
    have key:∀ {v:Value} {sv:SV},YF X.P ops o v a (Ext0 w)→R E sv v →
      runPlan X.T call ops.toList (mkPlan X.T ops.toList (infs ops.toList ops.toList) k (m ||| (1 <<< i))) (putD tm' o.dst sv,st')=some l'→wpAny X.P .any ops Q (k+1) listed a w:=by
     intro v sv hy hv hrun
     refine wpAny_hoist (C:=Ext0 w) (D:=fun j=>D.testBit j=true) ho hselA hQ hbeh k listed a w ?_ (fun j oj hj hji hun hnD=>⟨hap j oj hj hji hun,.inr fun a1 w1 n w2 hc he=>?_⟩) hrd (Ext0.refl w) hy ?_
     ·intro j hd
      rw [hL.bit]
      cases hb:m.testBit j with
      | false=>rfl
      | true =>
       have:(m &&& D).testBit j=true:=by rw [Nat.testBit_and,hb,hd]; rfl
       rw [hnd'] at this
       simp at this
     ·have hjl:j<ops.size:=(Array.getElem?_eq_some_iff.1 hj).1
      have hj':ops.toList[j]?=some oj:=by simpa using hj
      have hst:=quietBut_ok hq j oj hj' (by omega) (by rw [Nat.zero_add,← hL.bitT hjl]; exact hun) (by
       rw [Nat.zero_add]
       cases hb:D.testBit j with
       | false=>rfl
       | true=>exact absurd hb hnD)
      obtain ⟨h5,h6⟩:=still_ok hT hst a1 w1 n w2 he
      exact ⟨h5,hc.trans h6⟩
     ·exact plan_ok hT hP hR hC hQ hsel k (hL.set hlt) hrun g' (f'.put o.dst hv) (hl.mono (Env.le_refl E) hsub)
    cases b with
    | false =>
     simp only [cond_false] at hF
     exact key (.inr ⟨hwd,rfl⟩) (sv:=.tup []) (R_undef _) hF
    | true =>
     simp only [cond_true] at hF
     cases hp:readOp X.T tm' st' o.op with
     | none=>simp only [hp] at hF; cases hF
     | some sv =>
      simp only [hp] at hF
      obtain ⟨v,hv,hy⟩:=readOp_ok hT hR g' f' hp
      exact key (.inl ⟨hwd,fun w' hw'=>hy w' hw'⟩) hv hF
end SE
end
end Go.Proofs.YtdgejnakakjgfaaGreatDoor
