/- The symbolic executor: regions in any order. The symbolic executor: a region that draws its order, by a plan. The symbolic executor: a state met by another one under a renaming; outcomes joined; calls taken case by case. -/
import Derived.Test.YtdgejnakakjgfaaGreatDoorQ05
set_option linter.unusedVariables false
set_option linter.unusedSimpArgs false
set_option maxRecDepth 100000
namespace Go.Proofs.YtdgejnakakjgfaaGreatDoor
section
namespace SE
variable {X:Px} {own0:Nat→Prop} {w0 w:World} {E:Env} {st:St} {tm:TT} {a:Act}
def YF (P:Program) (ops:Array Oper) (o:Oper) (v:Value) (a:Act) (C:World→Prop):Prop :=
  (Region.wanted o (yielded ops a.tmps)=true∧∀ w,C w→((execOp a.eval o).run P w=.ok (.value v) w∨∃ g args,(execOp a.eval o).run P w=.ok (.enter g args) w∧Calls P g args w (fun e w'=>e=.returned v∧w'=w))) ∨
  (Region.wanted o (yielded ops a.tmps)=false∧v=undef)
section
variable {P:Program} {ops:Array Oper} {Q:Exit→Act→World→Prop} {C:World→Prop}
theorem YF.wpOp {i:Nat} {o:Oper} {v:Value} {a:Act} (hi:ops[i]?=some o) (hy:YF P ops o v a C) {K:Act→World→Prop} {w:World} (hw:C w) (h:K (a.put o.dst v) w):wpOp P ops Q i K a w:=by
  unfold Go.wpOp
  simp only [hi]
  rcases hy with ⟨hw',hv⟩ | ⟨hw',rfl⟩
  · simp only [hw',if_true]
    refine .inl ?_
    rcases hv w hw with h1 | ⟨g,args,h1,h2⟩
    · unfold Oper.wp; rw [h1]; exact h
    · unfold Oper.wp; rw [h1]
      refine Calls.mono h2 fun e w'' he=>?_
      obtain ⟨rfl,rfl⟩:=he
      exact h
  · simp only [hw',Bool.false_eq_true,if_false]; exact h
theorem YF.of_same {o:Oper} {v:Value} {a a':Act} (hy:YF P ops o v a C) (he:execOp a'.eval o=execOp a.eval o)
    (hw:Region.wanted o (yielded ops a'.tmps)=Region.wanted o (yielded ops a.tmps)):YF P ops o v a' C:=by
  unfold YF at *
  rw [he,hw]
  exact hy
theorem wpOp_putF {j:Nat} {oi oj:Oper} {v:Value} (hj:ops[j]?=some oj) (hap:oi.apart ops oj=true)
    (hsi:∀ cs b,oi.op≠.select cs b) (hsj:∀ cs b,oj.op≠.select cs b) (hQ:∀ c a w,¬ Q (.panic c) a w) (hC:(∀ w,C w)∨∀ (a:Act) w n w',C w→(execOp a.eval oj).run P w=.ok n w'→(∃ u,n=.value u)∧C w')
    {K:Act→World→Prop} {a:Act} {w:World} (hw0:C w)
    (hy:YF P ops oi v a C) (h:wpOp P ops Q j K (a.put oi.dst v) w) :
    wpOp P ops Q j (fun a' w'=>(C w'∧YF P ops oi v a' C)∧K (a'.put oi.dst v) w') a w:=by
  obtain ⟨h1,h2,h3⟩:=Oper.apart_spec hap
  have keep:∀ (a:Act),YF P ops oi v a C→∀ u,YF P ops oi v (a.put oj.dst u) C:=fun a hy u =>
    hy.of_same (execOp_put oi hsi a oj.dst u h3) (wanted_put oi a oj.dst u h3)
  have keepD:∀ d,YF P ops oi v { a with defers:=d::a.defers } C:=fun d=>hy.of_same rfl rfl
  unfold wpOp at *
  simp only [hj] at *
  rw [wanted_put oj a oi.dst v h1] at h
  split
  · rename_i hw
    simp only [hw,if_true] at h
    rcases h with h | ⟨hasks,hlets⟩
    case inr=>exact .inr ⟨by unfold Oper.asks at *; rw [execOp_put oj hsj a oi.dst v h1] at hasks; exact hasks,hlets⟩
    refine .inl ?_
    unfold Oper.wp at *
    rw [execOp_put oj hsj a oi.dst v h1] at h
    have hc:(∀ w,C w)∨∀ n w',(execOp a.eval oj).run P w=.ok n w'→(∃ u,n=.value u)∧C w':=hC.imp id fun h n w'=>h a w n w' hw0
    clear hC
    generalize (execOp a.eval oj).run P w=r at *
    cases r with
    | ok n w' =>
      rcases hc with hall | hc
      · cases n <;> simp only [Oper.upon] at h ⊢
        case value u=>exact ⟨⟨hall _,keep a hy u⟩,by rw [← Act.put_comm a v u h2]; exact h⟩
        case skip=>exact ⟨⟨hall _,keep a hy _⟩,by rw [← Act.put_comm a v undef h2]; exact h⟩
        case defer d =>
          refine ⟨⟨hall _,keep _ (keepD d) _⟩,?_⟩
          rw [← Act.put_comm _ v undef h2,← Act.put_defers]
          exact h
        case enter f args =>
          refine Calls.mono h fun e w'' he=>?_
          cases e with
          | returned u=>exact ⟨⟨hall _,keep a hy u⟩,by rw [← Act.put_comm a v u h2]; exact he⟩
          | panicked c=>exact (hQ _ _ _ he).elim
          | outgrown=>exact he
        case row row args=>exact Rows.mono h fun u w'' he=>⟨⟨hall _,keep a hy u⟩,by rw [← Act.put_comm a v u h2]; exact he⟩
      · obtain ⟨⟨u,rfl⟩,hcw⟩:=hc n w' rfl
        simp only [Oper.upon] at h ⊢
        exact ⟨⟨hcw,keep a hy u⟩,by rw [← Act.put_comm a v u h2]; exact h⟩
    | halt x w' =>
      cases x <;> simp only [Oper.upon] at h ⊢
      case panic u=>exact (hQ _ _ _ h).elim
  · rename_i hw
    simp only [hw] at h
    exact ⟨⟨hw0,keep a hy _⟩,by rw [← Act.put_comm a v undef h2]; exact h⟩
def Behind (ops:Array Oper) (i:Nat) (D:Nat→Prop):Prop:=∀ j oj,D j→ops[j]?=some oj→∃ e∈oj.after,Region.binds .any e=true∧(e.on=i∨D e.on)
theorem wpAny_hoist {i:Nat} {oi:Oper} {v:Value} {D:Nat→Prop} (hi:ops[i]?=some oi) (hsel:∀ (j:Nat) (o:Oper) cs b,ops[j]?=some o→o.op≠.select cs b) (hQ:∀ c a w,¬ Q (.panic c) a w) (hD:Behind ops i D) :
    ∀ (fuel:Nat) (listed:Array Bool) (a:Act) (w:World),
      (∀ j,D j→listed.getD j false=false) →
      (∀ j oj,ops[j]?=some oj→j≠i→listed.getD j true=false→¬ D j→((∀ e∈oj.after,Region.binds .any e=true→e.on≠i)→oi.apart ops oj=true) ∧
        ((∀ w,C w)∨∀ (a:Act) w n w',C w→(execOp a.eval oj).run P w=.ok n w'→(∃ u,n=.value u)∧C w')) →
      i∈Region.ready .any ops listed→C w→YF P ops oi v a C →
      wpAny P .any ops Q fuel (listed.setIfInBounds i true) (a.put oi.dst v) w→wpAny P .any ops Q (fuel+1) listed a w:=by
  intro fuel
  induction fuel with
  | zero =>
    intro listed a w hDl hfree hr hw hy H
    refine ⟨fun h=>(by rw [h] at hr; cases hr),fun j hj=>?_⟩
    by_cases hji:j=i
    · subst hji; exact hy.wpOp hi hw H
    · have:=ready_mono hj hji
      rw [H.1] at this
      cases this
  | succ fuel ih =>
    intro listed a w hDl hfree hr hw hy H
    refine ⟨fun h=>(by rw [h] at hr; cases hr),fun j hj=>?_⟩
    by_cases hji:j=i
    · subst hji; exact hy.wpOp hi hw H
    · have h1:=H.2 j (ready_mono hj hji)
      obtain ⟨hjun,oj,hoj,hall⟩:=mem_ready.1 hj
      have hiun:listed.getD i false=false:=by
        have h0:=(mem_ready.1 hr).1
        rcases Nat.lt_or_ge i listed.size with h' | h'
        · simp [h'] at h0 ⊢; exact h0
        · simp [Array.getElem?_eq_none h']
      have hnot:∀ e∈oj.after,Region.binds .any e=true→e.on≠i:=fun e he hb heq=>by
        have h1:=hall e he hb
        rw [heq,hiun] at h1
        cases h1
      have hjD:¬ D j:=fun hd=>by
        obtain ⟨e,he,hb,hor⟩:=hD j oj hd hoj
        rcases hor with heq | hd2
        · exact hnot e he hb heq
        · have:=hall e he hb
          rw [hDl _ hd2] at this
          cases this
      obtain ⟨hap,hst⟩:=hfree j oj hoj hji hjun hjD
      have h2:=wpOp_putF hoj (hap hnot) (fun cs b=>hsel i oi cs b hi) (fun cs b=>hsel j oj cs b hoj) hQ hst hw hy h1
      refine wpOp_mono (fun a' w' h3=>ih (listed.setIfInBounds j true) a' w' ?_ ?_ (ready_mono hr (Ne.symm hji)) h3.1.1 h3.1.2 ?_) h2
      · intro k hk
        rw [getD_set_ne false (fun hh:j=k=>hjD (by rw [hh]; exact hk))]
        exact hDl k hk
      · intro k ok hk hki hun hnd
        refine hfree k ok hk hki ?_ hnd
        by_cases hjk:j=k
        · subst hjk; exact hjun
        · rw [getD_set_ne true hjk] at hun; exact hun
      · rw [Array.setIfInBounds_comm _ _ hji]
        exact h3.2
structure LM (ops:Array Oper) (m:Nat) (listed:Array Bool):Prop where
  size:listed.size=ops.size
  bit:∀ i,listed.getD i false=m.testBit i
theorem LM.zero (ops:Array Oper):LM ops 0 (Array.replicate ops.size false):=⟨by simp,fun i=>by
  rcases Nat.lt_or_ge i ops.size with h | h
  · simp [h]
  · simp [h]⟩
theorem LM.set {m i:Nat} {listed:Array Bool} (h:LM ops m listed) (hi:i<ops.size):LM ops (m ||| (1 <<< i)) (listed.setIfInBounds i true):=by
  refine ⟨by simp [h.size],fun j=>?_⟩
  rw [Nat.testBit_or,Nat.one_shiftLeft,Nat.testBit_two_pow]
  by_cases hij:i=j
  · subst hij
    simp [h.size,hi]
  · rw [getD_set_ne false hij,h.bit]
    simp [hij]
theorem LM.bitT {m i:Nat} {listed:Array Bool} (h:LM ops m listed) (hi:i<ops.size):listed.getD i true=m.testBit i:=by
  rw [← h.bit]
  have:i<listed.size:=by rw [h.size]; exact hi
  simp [this]
theorem edgesIn_iff {m:Nat}:∀ {l:List Edge},edgesIn m l=true↔∀ e∈l,Region.binds .any e=true→m.testBit e.on=true
  | []=>by simp [edgesIn]
  | e::l=>by
    simp only [edgesIn,Bool.and_eq_true,edgesIn_iff (l:=l),List.forall_mem_cons]
    cases Region.binds .any e <;> simp
theorem readyS_iff {m i:Nat} {o:Oper} {listed:Array Bool} (h:LM ops m listed) (ho:ops[i]?=some o):readyS m i o=true↔i∈Region.ready .any ops listed:=by
  have hi:i<ops.size:=(Array.getElem?_eq_some_iff.1 ho).1
  rw [mem_ready,h.bitT hi]
  simp only [readyS,Bool.and_eq_true,Bool.not_eq_true',edgesIn_iff]
  constructor
  · rintro ⟨h1,h2⟩
    exact ⟨h1,o,ho,fun e he hb=>by rw [h.bit]; exact h2 e (by simpa using he) hb⟩
  · rintro ⟨h1,o',ho',h2⟩
    rw [ho] at ho'
    cases ho'
    exact ⟨h1,fun e he hb=>by rw [← h.bit]; exact h2 e (by simpa using he) hb⟩
theorem readies_mem {m:Nat}:∀ {l:List Oper} {k j:Nat} {o:Oper},(j,o)∈readies m k l↔∃ i,l[i]?=some o∧j=k+i∧readyS m j o=true
  | [],k,j,o=>by simp [readies]
  | x :: l,k,j,o=>by
    have ih:=readies_mem (m:=m) (l:=l) (k:=k+1) (j:=j) (o:=o)
    have key:(∃ i,(x::l)[i]?=some o∧j=k+i∧readyS m j o=true)↔(x=o∧j=k∧readyS m j o=true)∨∃ i,l[i]?=some o∧j=k+1+i∧readyS m j o=true:=by
      constructor
      · rintro ⟨i,h1,h2,h3⟩
        cases i with
        | zero=>simp at h1; exact .inl ⟨h1,by omega,h3⟩
        | succ i=>simp at h1; exact .inr ⟨i,h1,by omega,h3⟩
      · rintro (⟨h1,h2,h3⟩ | ⟨i,h1,h2,h3⟩)
        · exact ⟨0,by simp [h1],by omega,h3⟩
        · exact ⟨i+1,by simpa using h1,by omega,h3⟩
    rw [key]
    simp only [readies]
    cases hr:readyS m k x with
    | true =>
      simp only [cond_true,List.mem_cons,Prod.mk.injEq,ih]
      constructor
      · rintro (⟨rfl,rfl⟩ | h)
        · exact .inl ⟨rfl,rfl,hr⟩
        · exact .inr h
      · rintro (⟨rfl,rfl,_⟩ | h)
        · exact .inl ⟨rfl,rfl⟩
        · exact .inr h
    | false =>
      simp only [cond_false,ih]
      constructor
      · exact .inr
      · rintro (⟨rfl,rfl,h⟩ | h)
        · rw [hr] at h; cases h
        · exact h
theorem readies_ready {m:Nat} {listed:Array Bool} (h:LM ops m listed) (j:Nat):j∈Region.ready .any ops listed↔∃ o,ops[j]?=some o∧(j,o)∈readies m 0 ops.toList:=by
  constructor
  · intro hj
    obtain ⟨_,o,ho,_⟩:=mem_ready.1 hj
    exact ⟨o,ho,readies_mem.2 ⟨j,by simpa using ho,by omega,(readyS_iff h ho).2 hj⟩⟩
  · rintro ⟨o,ho,hm⟩
    obtain ⟨i,h1,h2,h3⟩:=readies_mem.1 hm
    exact (readyS_iff h ho).1 h3
theorem readies_nil {m:Nat} {listed:Array Bool} (h:LM ops m listed) (hr:readies m 0 ops.toList=[]):Region.ready .any ops listed=[]:=by
  apply List.eq_nil_iff_forall_not_mem.2
  intro j hj
  obtain ⟨o,_,hm⟩:=(readies_ready h j).1 hj
  rw [hr] at hm
  cases hm
theorem noSel_ok:∀ {l:List Oper},noSel l=true→∀ o∈l,∀ cs b,o.op≠.select cs b
  | [],_,o,ho=>by cases ho
  | x :: l,h,o,ho=>by
    intro cs b
    simp only [noSel,Bool.and_eq_true] at h
    rcases List.mem_cons.1 ho with rfl | ho
    · intro he
      rw [he] at h
      cases h.1
    · exact noSel_ok h.2 o ho cs b
theorem nth_eq {α:Type}:∀ (l:List α) (j:Nat),nth l j=l[j]?
  | [],j=>by simp [nth]
  | x::l,0=>by simp [nth]
  | x::l,j+1=>by simp [nth,nth_eq l j]
theorem opTmps_mem {t:Nat}:∀ {l:List Operand},t∈opTmps l↔.tmp t∈l
  | []=>by simp [opTmps]
  | x::l=>by
    have ih:=opTmps_mem (t:=t) (l:=l)
    cases x <;> simp [opTmps,ih]
theorem looks_mem {o:Oper} {t:Nat}:t∈looks ops.toList o↔t∈o.looksAt ops:=by
  have hop:t∈opTmps o.op.operands.toList↔t∈o.op.operands.toList.filterMap fun | .tmp t=>some t | _=>none:=by
    rw [opTmps_mem,List.mem_filterMap]
    constructor
    · intro h; exact ⟨_,h,rfl⟩
    · rintro ⟨x,hx,he⟩
      cases x <;> simp at he
      subst he
      exact hx
  unfold looks Oper.looksAt
  cases hg:o.guard with
  | none=>simp only [List.append_nil]; exact hop
  | some q =>
    obtain ⟨g,want⟩:=q
    simp only [nth_eq,Array.getElem?_toList]
    cases hj:ops[g]? with
    | none=>simp only [Option.bind_none,Option.toList_none,List.append_nil]; exact hop
    | some og =>
      simp only [Option.bind_some]
      cases hd:og.dst with
      | none=>simp only [Option.toList_none,List.append_nil]; exact hop
      | some d =>
        simp only [Option.toList_some,List.mem_append,List.mem_cons,List.not_mem_nil,or_false,hop]
        exact or_comm
theorem hasN_iff {l:List Nat} {d:Nat}:hasN l d=true↔d∈l:=by
  induction l with
  | nil=>simp [hasN]
  | cons x l ih =>
    simp only [hasN]
    cases h:Nat.beq x d with
    | true=>have:=nbeq h; subst this; simp
    | false=>have:=nbeq_false h; simp [ih,Ne.symm this]
theorem apartS_ok {x y:Oper} (h:apartS (x.dst,looks ops.toList x) (y.dst,looks ops.toList y)=true):x.apart ops y=true:=by
  have hh:∀ (o:Oper) d,hasN (looks ops.toList o) d=(o.looksAt ops).contains d:=fun o d=>by
    rw [Bool.eq_iff_iff,hasN_iff,looks_mem]; simp
  simp only [apartS,Bool.and_eq_true] at h
  unfold Oper.apart
  rw [Bool.and_eq_true]
  constructor
  · have:=h.1
    cases hx:x.dst with
    | none=>rfl
    | some d =>
      simp only [hx,hh] at this
      simp only [Bool.and_eq_true] at this ⊢
      refine ⟨this.1,?_⟩
      have h2:=this.2
      cases hy:y.dst with
      | none=>simp
      | some d' =>
        simp only [hy,Bool.not_eq_true'] at h2
        have:=nbeq_false h2
        simp [this]
  · have:=h.2
    cases hy:y.dst with
    | none=>rfl
    | some d=>simp only [hy,hh] at this; simpa using this
theorem infs_get:∀ {l:List Oper} {j:Nat} {o:Oper},l[j]?=some o→(infs ops.toList l)[j]?=some ((o.dst,looks ops.toList o),o.after.toList)
  | [],j,o,h=>by simp at h
  | x::l,0,o,h=>by simp at h; subst h; simp [infs]
  | x::l,j+1,o,h=>by simp at h; simpa [infs] using infs_get h
theorem onEdge_iff {i:Nat}:∀ {l:List Edge},onEdge i l=true↔∃ e∈l,e.on=i∧Region.binds .any e=true
  | []=>by simp [onEdge]
  | e :: l=>by
    have ih:=onEdge_iff (i:=i) (l:=l)
    simp only [onEdge,List.mem_cons,exists_eq_or_imp,← ih]
    cases h1:Nat.beq e.on i with
    | true =>
      have:=nbeq h1
      cases Region.binds .any e <;> simp [this]
    | false =>
      have:=nbeq_false h1
      simp [this]
theorem freeS_ok {m i:Nat} {x:Inf}:∀ {l:List (Inf×List Edge)} {k:Nat},freeS m i x k l=true→∀ j y es,l[j]?=some (y,es)→k+j≠i→m.testBit (k+j)=false→onEdge i es=false→apartS x y=true
  | [],k,h,j,y,es,hj=>by simp at hj
  | (z,es')::l,k,h,j,y,es,hj=>by
    intro h1 h2 h3
    simp only [freeS,Bool.and_eq_true,Bool.or_eq_true] at h
    cases j with
    | zero =>
      simp at hj
      obtain ⟨rfl,rfl⟩:=hj
      rcases h.1 with h4 | h4 | h4 | h4
      · exact absurd (nbeq h4).symm (by simpa using h1)
      · rw [Nat.add_zero] at h2; rw [h2] at h4; cases h4
      · rw [h3] at h4; cases h4
      · exact h4
    | succ j =>
      exact freeS_ok h.2 j y es (by simpa using hj) (by omega) (by rw [show k+1+j=k+(j+1) by omega]; exact h2) h3
theorem onAny_iff {i D:Nat}:∀ {l:List Edge},onAny i D l=true↔∃ e∈l,(e.on=i∨D.testBit e.on=true)∧Region.binds .any e=true
  | []=>by simp [onAny]
  | e :: l=>by
    have ih:=onAny_iff (i:=i) (D:=D) (l:=l)
    simp only [onAny,List.mem_cons,exists_eq_or_imp,← ih]
    cases h1:Nat.beq e.on i with
    | true =>
      have:=nbeq h1
      cases Region.binds .any e <;> simp [this]
    | false =>
      have:=nbeq_false h1
      cases D.testBit e.on <;> cases Region.binds .any e <;> simp [this]
theorem descOk_ok {i D:Nat}:∀ {l:List Oper} {k:Nat},descOk i D k l=true→∀ j o,l[j]?=some o→D.testBit (k+j)=true→onAny i D o.after.toList=true
  | [],k,h,j,o,hj=>by simp at hj
  | x :: l,k,h,j,o,hj=>by
    intro hd
    simp only [descOk,Bool.and_eq_true,Bool.or_eq_true,Bool.not_eq_true'] at h
    cases j with
    | zero =>
      simp at hj
      subst hj
      rw [Nat.add_zero] at hd
      rcases h.1 with h4 | h4
      · rw [hd] at h4; cases h4
      · exact h4
    | succ j=>exact descOk_ok h.2 j o (by simpa using hj) (by rw [show k+1+j=k+(j+1) by omega]; exact hd)
theorem quietBut_ok {T:Tb} {i m D:Nat}:∀ {l:List Oper} {k:Nat},quietBut T i m D k l=true→∀ j o,l[j]?=some o→k+j≠i→m.testBit (k+j)=false→D.testBit (k+j)=false→stillOp T o.op=true
  | [],k,h,j,o,hj=>by simp at hj
  | x :: l,k,h,j,o,hj=>by
    intro h1 h2 h3
    simp only [quietBut,Bool.and_eq_true,Bool.or_eq_true] at h
    cases j with
    | zero =>
      simp at hj
      subst hj
      rw [Nat.add_zero] at h1 h2 h3
      rcases h.1 with h4 | h4 | h4 | h4
      · exact absurd (nbeq h4).symm h1
      · rw [h2] at h4; cases h4
      · rw [h3] at h4; cases h4
      · exact h4
    | succ j=>exact quietBut_ok h.2 j o (by simpa using hj) (by omega) (by rw [show k+1+j=k+(j+1) by omega]; exact h2) (by rw [show k+1+j=k+(j+1) by omega]; exact h3)
end
end SE
end
section
namespace SE
variable {X:Px} {own0:Nat→Prop} {w0 w:World} {E:Env} {st:St} {tm:TT} {a:Act}
theorem vgrow {P:Program} {s:Sem Value} (h:Grow P s) {w w':World} {n:Next} (e:(do pure (Next.value (← s)):Sem Next).run P w=.ok n w'):(∃ u,n=.value u)∧Ext0 w w':=by
  rw [Sem.run_bind] at e
  cases hs:s.run P w with
  | ok x w1=>rw [hs] at e; cases e; exact ⟨⟨x,rfl⟩,h w x _ hs⟩
  | halt q w1=>rw [hs] at e; cases e
theorem intT_ok (hT:TabOk X) {t:Nat} (h:intT X.T t=true):∃ k,X.P.underlying t=some (.int k):=by
  unfold intT at h
  cases hty:X.T.ty.get t with
  | none=>simp only [hty] at h; cases h
  | some y =>
    obtain ⟨d,i,hd,hi,hs,hu⟩:=typ_some hT hty
    simp only [hty] at h
    cases hund:y.und <;> simp only [hund] at h <;> try cases h
    rw [hund] at hu
    cases d <;> simp [UDok] at hu
    exact ⟨_,hd⟩
theorem grow_convII {P:Program} {s d:TypeId} {j k:IntKind} (h1:P.underlying s=some (.int j)) (h2:P.underlying d=some (.int k)) (x:Value):Grow P (convert s d x):=by
  intro w y w' e
  unfold convert at e
  rw [Sem.run_bind,und_run h1,Result.andThen_ok,Sem.run_bind,und_run h2,Result.andThen_ok] at e
  cases x with
  | int l n=>simp only [Conv.intToInt,Sem.run_pure] at e; cases e; exact Ext0.refl w
  | float l b =>
    simp only at e
    have hg:Grow P (Conv.floatToInt l b k):=by
      unfold Conv.floatToInt
      repeat' (first
        | exact grow_pure _ | exact grow_pure' _ | exact grow_stuck _ | exact grow_unsup _
        | exact grow_choose _ | exact grow_program
        | exact grow_map (grow_choose _)
        | refine grow_bind ?_ fun _=>?_
        | split
        | dsimp only)
    exact hg w y w' e
  | pointer p=>cases p <;> simp at e
  | _=>simp at e
theorem grow_followBlind {P:Program}:∀ (l:List FieldStep) (t:TypeId) (x:Option Value),Grow P (followBlind l t x)
  | [],t,x=>by unfold followBlind; exact grow_pure _
  | s::rest,t,x=>by
    unfold followBlind
    have ih:=fun t x=>grow_followBlind (P:=P) rest t x
    repeat' (first
    | exact grow_pure _ | exact grow_pure' _ | exact grow_stuck _ | exact grow_unsup _
    | exact grow_underlying _ | exact grow_typeInfo _ | exact grow_program | exact grow_part _ _ _
    | exact ih _ _
    | refine grow_bind ?_ fun _=>?_
    | split
    | dsimp only)
theorem grow_nilAhead {P:Program}:∀ (n:Nat) (t:TypeId) (v:Value) (s:String),Grow P (nilAhead n t v s)
  | 0,t,v,s=>by unfold nilAhead; exact grow_pure _
  | n+1,t,v,s=>by
    unfold nilAhead
    have ih:=fun t v s=>grow_nilAhead (P:=P) n t v s
    have ih2:=fun l t x=>grow_followBlind (P:=P) l t x
    repeat' (first
    | exact grow_pure _ | exact grow_pure' _ | exact grow_stuck _ | exact grow_unsup _
    | exact grow_underlying _ | exact grow_typeInfo _ | exact grow_program | exact grow_part _ _ _
    | exact ih _ _ _ | exact ih2 _ _ _
    | refine grow_bind ?_ fun _=>?_
    | split
    | dsimp only)
theorem still_ok (hT:TabOk X) {o:Oper} (h:stillOp X.T o.op=true):∀ (a:Act) w n w',(execOp a.eval o).run X.P w=.ok n w'→(∃ u,n=.value u)∧Ext0 w w':=by
  obtain ⟨dst,op,type,pos,after,guard⟩:=o
  intro a w n w' e
  cases op <;> simp only [stillOp,Bool.false_eq_true] at h <;> simp only [execOp] at e
  case move x=>cases e; exact ⟨⟨_,rfl⟩,Ext0.refl w⟩
  case assign x=>cases e; exact ⟨⟨_,rfl⟩,Ext0.refl w⟩
  case pick c x y =>
    rw [Sem.run_bind] at e
    cases hb:(asBool (a.eval c)).run X.P w with
    | ok b w1 =>
      rw [hb] at e
      cases e
      exact ⟨⟨_,rfl⟩,grow_asBool _ w b _ hb⟩
    | halt q w1=>rw [hb] at e; cases e
  case alloc t=>exact vgrow (grow_alloc t) e
  case box t x=>exact vgrow (grow_box t _) e
  case build t ps=>exact vgrow (grow_build t _) e
  case buildSlice t n ps=>exact vgrow (grow_buildSlice t n _) e
  case load t x=>exact vgrow (grow_loadAt t _) e
  case nilCheck x =>
    have hrp:(runtimePanic .nilDeref:Sem Next).run X.P w=.ok n w'→False:=by
      intro he
      simp [runtimePanic] at he
    split at e
    · exact (hrp e).elim
    · exact (hrp e).elim
    · exact (hrp e).elim
    · split at e
      · exact (hrp e).elim
      · rename_i t v _
        rw [Sem.run_bind] at e
        simp only [run_program,Result.andThen_ok,Sem.run_bind] at e
        cases hn:(nilAhead (X.P.types.size+Made.depth) t v ‹_›).run X.P w with
        | halt q w1=>rw [hn] at e; cases e
        | ok r w1 =>
          rw [hn] at e
          simp only [Result.andThen_ok] at e
          split at e
          · simp at e
          · simp only [Sem.run_pure] at e
            cases e
            exact ⟨⟨_,rfl⟩,grow_nilAhead _ _ _ _ w r _ hn⟩
      · cases e; exact ⟨⟨_,rfl⟩,Ext0.refl w⟩
    · cases e; exact ⟨⟨_,rfl⟩,Ext0.refl w⟩
  case binOp op t x y yt =>
    refine vgrow ?_ e
    cases op <;> simp only [stillOp,Bool.false_eq_true] at h <;> exact grow_binOp (by simp) t x y _ _
  case unOp op t x=>exact vgrow (grow_unary op _) e
  case convert s d x =>
    simp only [Bool.and_eq_true] at h
    obtain ⟨j,h1⟩:=intT_ok hT h.1
    obtain ⟨k,h2⟩:=intT_ok hT h.2
    exact vgrow (grow_convII h1 h2 _) e
  case makeFunc fn x y=>exact vgrow (grow_pure _) e
  case fieldAddr s x f=>exact vgrow (grow_fieldAt s _ f) e
  case field s x f=>exact vgrow (grow_field s _ f) e
  case indexAddr t x i=>exact vgrow (grow_indexAt t _ _) e
  case index t x i=>exact vgrow (grow_index t _ _) e
  case extract x i=>exact vgrow (grow_extract _ i) e
theorem forked_ok (g:G X own0 w0 E st w) (f:FOk E tm a) {ops:Array Oper} {o:Oper} {F:Bool→Sx→Option (List Sx)} {l:List Sx} (e:forked ops.toList (tm,st) o F=some l) :
    ∃ b tm' st' l',Region.wanted o (yielded ops a.tmps)=b∧G X own0 w0 E st' w∧FOk E tm' a∧F b (tm',st')=some l'∧∀ x∈l',x∈l:=by
  unfold forked at e
  have hg:=guardS_ok g f (ops:=ops) (o:=o)
  cases hgd:guardS ops.toList tm st o with
  | run=>rw [hgd] at hg; simp only [hgd] at e; exact ⟨true,tm,st,l,hg,g,f,e,fun _ h=>h⟩
  | skip=>rw [hgd] at hg; simp only [hgd] at e; exact ⟨false,tm,st,l,hg,g,f,e,fun _ h=>h⟩
  | bad=>simp only [hgd] at e; cases e
  | fork t want =>
    rw [hgd] at hg
    obtain ⟨b,hb,hv,hw⟩:=hg
    simp only [hgd,setK_eq,fSt_eq,fStM_eq,fStT_eq] at e
    obtain ⟨st',ha,g'⟩:=assumeL_ok g hb
    have f':FOk E (tm.set t (ofB b)) a:=f.refine t (ofB_slot hv)
    by_cases hbw:b=want
    · subst hbw
      cases h1:bindL (fun st'=>F true (tm.set t (ofB b),st')) (assumeL st (tm.get t) b) with
      | none=>simp only [h1] at e; cases e
      | some l1 =>
        simp only [h1] at e
        obtain ⟨m,hm1,hm2⟩:=bindL_mem h1 st' ha
        refine ⟨true,_,st',m,by rw [hw]; simp,g',f',hm1,fun x hx=>?_⟩
        revert e
        split
        · intro e; cases e; exact List.mem_append_left _ (hm2 x hx)
        · intro e; cases e
    · have hbw':b=!want:=by cases b <;> cases want <;> simp at hbw ⊢
      have hbe:(b == want)=false:=by cases b <;> cases want <;> simp at hbw ⊢
      revert e
      split
      · rename_i l1 _
        split
        · rename_i l2 h2
          intro e
          cases e
          rw [← hbw'] at h2
          obtain ⟨m,hm1,hm2⟩:=bindL_mem h2 st' ha
          exact ⟨false,_,st',m,by rw [hw,hbe],g',f',hm1,fun x hx=>List.mem_append_right _ (hm2 x hx)⟩
        · intro e; cases e
      · intro e; cases e
theorem hoistI_ok {T:Tb} {all:List Oper} {inf:List (Inf×List Edge)} {m:Nat}:∀ {l:List Oper} {xs:List (Inf×List Edge)} {k i:Nat} {o:Oper} {b:Bool},hoistI T all inf m k l xs=some (i,o,b) →
    ∃ j x,i=k+j∧l[j]?=some o∧xs[j]?=some x∧hoistK T all inf m i o x.1=(if b then .pure else .load)
  | [],xs,k,i,o,b,h=>by simp [hoistI] at h
  | o'::l,[],k,i,o,b,h=>by simp [hoistI] at h
  | o'::l,x::xs,k,i,o,b,h=>by
    simp only [hoistI,fN_eq] at h
    cases hk:hoistK T all inf m k o' x.1 with
    | pure=>simp only [hk] at h; cases h; exact ⟨0,x,rfl,rfl,rfl,hk⟩
    | load=>simp only [hk] at h; cases h; exact ⟨0,x,rfl,rfl,rfl,hk⟩
    | no =>
      simp only [hk] at h
      obtain ⟨j,y,h1,h2,h3,h4⟩:=hoistI_ok h
      exact ⟨j+1,y,by omega,by simpa using h2,by simpa using h3,h4⟩
theorem alts_ok {T:Tb} {call:Nat→List SV→St→Option Out} {ops:List Oper} {F:Nat→Plan} {m:Nat} {s:Sx}:∀ {rs:List (Nat×Oper)} {l:List Sx},runPlan T call ops (alts F m rs) s=some l →
    ∀ i o,(i,o)∈rs→∃ r l',gStep T call ops s.1 s.2 o=some r∧bindL (runPlan T call ops (F (m ||| (1 <<< i)))) r=some l'∧∀ x∈l',x∈l
  | [],l,e,i,o,h=>by cases h
  | (j, o') :: rs,l,e,i,o,h=>by
    simp only [alts,runPlan,setBit,fN_eq] at e
    cases h1:gStep T call ops s.1 s.2 o' with
    | none=>simp only [h1] at e; cases e
    | some r =>
      simp only [h1] at e
      cases h2:bindL (runPlan T call ops (F (m ||| (1 <<< j)))) r with
      | none=>simp only [h2] at e; cases e
      | some l1 =>
        simp only [h2] at e
        cases h3:runPlan T call ops (alts F m rs) s with
        | none=>simp only [h3] at e; cases e
        | some l2 =>
          simp only [h3,Option.some.injEq] at e
          subst e
          rcases List.mem_cons.1 h with he | h
          · cases he
            exact ⟨r,l1,h1,h2,fun x hx=>List.mem_append_left _ hx⟩
          · obtain ⟨r',l',q1,q2,q3⟩:=alts_ok h3 i o h
            exact ⟨r',l',q1,q2,fun x hx=>List.mem_append_right _ (q3 x hx)⟩
theorem plan_ok (hT:TabOk X) (hP:PkOk X) (hR:RkOk X) {call:Nat→List SV→St→Option Out} (hC:CallOk X own0 w0 call) {ops:Array Oper} {Q:Exit→Act→World→Prop} (hQ:∀ c a w,¬ Q (.panic c) a w)
    (hsel:noSel ops.toList=true):∀ (k:Nat) {m:Nat} {listed:Array Bool} {E:Env} {s:Sx} {a:Act} {w:World} {l:List Sx},LM ops m listed →
      runPlan X.T call ops.toList (mkPlan X.T ops.toList (infs ops.toList ops.toList) k m) s=some l→G X own0 w0 E s.2 w→FOk E s.1 a→Post X own0 w0 E l (Q .normal)→wpAny X.P .any ops Q k listed a w
  | 0,m,listed,E,s,a,w,l,hL,e,g,f,hl=>by
    simp only [mkPlan] at e
    cases hr:readies m 0 ops.toList with
    | nil =>
      simp only [hr,runPlan,Option.some.injEq] at e
      subst e
      exact ⟨readies_nil hL hr,hl s (by simp) E a w (Env.le_refl E) g f⟩
    | cons x xs=>simp only [hr,runPlan] at e; cases e
  | k + 1, m, listed,E,s,a,w,l,hL,e,g,f,hl=>by
    have hselA:∀ (j:Nat) (o:Oper) cs b,ops[j]?=some o→o.op≠.select cs b:=fun j o cs b ho=>noSel_ok hsel o (by
      rw [← Array.getElem?_toList] at ho
      exact List.mem_of_getElem? ho) cs b
    simp only [mkPlan] at e
    cases hh:hoistI X.T ops.toList (infs ops.toList ops.toList) m 0 ops.toList (infs ops.toList ops.toList) with
    | none =>
      simp only [hh] at e
      cases hr:readies m 0 ops.toList with
      | nil =>
        simp only [hr,runPlan,Option.some.injEq] at e
        subst e
        exact wpAny_done (readies_nil hL hr) (hl s (by simp) E a w (Env.le_refl E) g f) _
      | cons x xs =>
        simp only [hr] at e
        rw [← hr] at e
        refine ⟨fun h0=>?_,fun i hi=>?_⟩
        · exfalso
          have hx:x∈readies m 0 ops.toList:=by rw [hr]; simp
          obtain ⟨xi,xo⟩:=x
          obtain ⟨j,h1,h2,h3⟩:=readies_mem.1 hx
          have ho:ops[xi]?=some xo:=by rw [h2,Nat.zero_add]; simpa using h1
          have:=(readyS_iff hL ho).1 h3
          rw [h0] at this
          cases this
        · obtain ⟨o,ho,hm⟩:=(readies_ready hL i).1 hi
          obtain ⟨r,l',h1,h2,h3⟩:=alts_ok e i o hm
          have hlt:i<ops.size:=(Array.getElem?_eq_some_iff.1 ho).1
          have hw:=gStep_wp hT hP hR hC (Q:=Q) g f h1 (K:=wpAny X.P .any ops Q k (listed.setIfInBounds i true)) (fun s' hs' E' a' w' hle g' f'=>by
            obtain ⟨r2,hr2,hr3⟩:=bindL_mem h2 s' hs'
            exact plan_ok hT hP hR hC hQ hsel k (hL.set hlt) hr2 g' f' (hl.mono hle fun x hx=>h3 x (hr3 x hx)))
          unfold Go.wpOp
          simp only [ho]
          split
          · rename_i hwd; rw [if_pos hwd] at hw; exact .inl hw
          · rename_i hwd; rw [if_neg hwd] at hw; exact hw
    | some q =>
      obtain ⟨i,o,b⟩:=q
      obtain ⟨j,x,h1,h2,h3,h4⟩:=hoistI_ok hh
      rw [Nat.zero_add] at h1
      subst h1
      have ho:ops[i]?=some o:=by simpa using h2
      have hlt:i<ops.size:=(Array.getElem?_eq_some_iff.1 ho).1
      have hx:x=((o.dst,looks ops.toList o),o.after.toList):=by
        rw [infs_get h2] at h3
        exact (Option.some.inj h3).symm
      subst hx
      have hready:readyS m i o=true∧freeS m i (o.dst,looks ops.toList o) 0 (infs ops.toList ops.toList)=true:=by
        unfold hoistK at h4
        cases hc:(readyS m i o&&freeS m i (o.dst,looks ops.toList o) 0 (infs ops.toList ops.toList)) with
        | true=>simpa using hc
        | false=>simp only [hc,cond_false] at h4; cases b <;> cases h4
      have hrd:=(readyS_iff hL ho).1 hready.1
      have hap:∀ j oj,ops[j]?=some oj→j≠i→listed.getD j true=false→(∀ e∈oj.after,Region.binds .any e=true→e.on≠i)→o.apart ops oj=true:=by
        intro j oj hj hji hun hno
        have hjl:j<ops.size:=(Array.getElem?_eq_some_iff.1 hj).1
        have hj':ops.toList[j]?=some oj:=by simpa using hj
        refine apartS_ok (freeS_ok hready.2 j _ _ (infs_get hj') (by omega) (by rw [Nat.zero_add,← hL.bitT hjl]; exact hun) ?_)
        cases he:onEdge i oj.after.toList with
        | false=>rfl
        | true =>
          obtain ⟨e,he1,he2,he3⟩:=onEdge_iff.1 he
          exact absurd he2 (hno e (by simpa using he1) he3)
      cases b with
      | true =>
        simp only [hh,runPlan,setBit,fN_eq,fV_eq,putK_eq,fSt_eq,fStM_eq,fStT_eq] at e
        obtain ⟨b,tm',st',l',hwd,g',f',hF,hsub⟩:=forked_ok (tm:=s.1) (st:=s.2) g f e
        have key:∀ {v:Value} {E':Env} {sv:SV} {st2:St},YF X.P ops o v a (fun _=>True)→E.le E'→R E' sv v→G X own0 w0 E' st2 w →
            runPlan X.T call ops.toList (mkPlan X.T ops.toList (infs ops.toList ops.toList) k (m ||| (1 <<< i))) (putD tm' o.dst sv,st2)=some l'→wpAny X.P .any ops Q (k+1) listed a w:=by
          intro v E' sv st2 hy hle hv g2 hrun
          refine wpAny_hoist (C:=fun _=>True) (D:=fun _=>False) ho hselA hQ (fun j oj hd=>hd.elim) k listed a w (fun j hd=>hd.elim) (fun j oj hj hji hun _=>⟨hap j oj hj hji hun,.inl fun _=>trivial⟩) hrd trivial hy ?_
          exact plan_ok hT hP hR hC hQ hsel k (hL.set hlt) hrun g2 ((f'.mono hle).put o.dst hv) (hl.mono hle hsub)
        cases b with
        | false =>
          simp only [cond_false] at hF
          exact key (.inr ⟨hwd,rfl⟩) (Env.le_refl E) (sv:=.tup []) (R_undef _) g' hF
        | true =>
          simp only [cond_true] at hF
          cases hp:pureOp X.T tm' st' o.op with
          | some sv =>
            simp only [hp] at hF
            obtain ⟨v,hv,hy⟩:=pureOp_ok hT hP g' f' hp
            refine key (.inl ⟨hwd,fun w _=>?_⟩) (Env.le_refl E) hv g' hF
            rcases hy with hy | ⟨gg,args,hy1,hy2⟩
            · exact .inl (hy w)
            · exact .inr ⟨gg,args,hy1 w,hy2 w⟩
          | none =>
            simp only [hp] at hF
            cases hn:nameOp X.T tm' st' o.op with
            | none=>simp only [hn] at hF; cases hF
            | some q =>
              obtain ⟨sv,st2⟩:=q
              simp only [hn] at hF
              obtain ⟨v,E',hle,hv,hy,hg⟩:=nameOp_ok hT g' f' hn
              refine key (.inl ⟨hwd,fun w _=>?_⟩) hle hv (hg w g') hF
              rcases hy with hy | ⟨gg,args,hy1,hy2⟩
              · exact .inl (hy w)
              · exact .inr ⟨gg,args,hy1 w,hy2 w⟩
      | false =>
        have hD:∃ D:Nat,quietBut X.T i m D 0 ops.toList=true∧descOk i D 0 ops.toList=true∧noDone m D=true:=by
          unfold hoistK at h4
          simp only [hready.1,hready.2,Bool.and_self,cond_true,fN_eq] at h4
          cases hpk:pureKind X.T o.op with
          | true=>simp only [hpk,cond_true] at h4; cases h4
          | false =>
            simp only [hpk,cond_false] at h4
            cases hrk:readKind X.T o.op with
            | false=>simp only [hrk,cond_false] at h4; cases h4
            | true =>
              simp only [hrk,cond_true] at h4
              cases hc:(quietBut X.T i m (descS i 0 (infs ops.toList ops.toList) 0) 0 ops.toList&&(descOk i (descS i 0 (infs ops.toList ops.toList) 0) 0 ops.toList&&noDone m (descS i 0 (infs ops.toList ops.toList) 0))) with
              | false=>simp only [hc,cond_false] at h4; cases h4
              | true=>simp only [Bool.and_eq_true] at hc; exact ⟨_,hc.1,hc.2.1,hc.2.2⟩
        obtain ⟨D,hq,hdo,hnd⟩:=hD
        have hnd':=nbeq hnd
        simp only [hh,runPlan,setBit,fN_eq,fV_eq,putK_eq,fSt_eq,fStM_eq,fStT_eq] at e
        obtain ⟨b,tm',st',l',hwd,g',f',hF,hsub⟩:=forked_ok (tm:=s.1) (st:=s.2) g f e
        have hbeh:Behind ops i (fun j=>D.testBit j=true):=by
          intro j oj hd hj
          have hj':ops.toList[j]?=some oj:=by simpa using hj
          obtain ⟨e,he1,he2,he3⟩:=onAny_iff.1 (descOk_ok hdo j oj hj' (by rw [Nat.zero_add]; exact hd))
          exact ⟨e,by simpa using he1,he3,he2⟩
        have key:∀ {v:Value} {sv:SV},YF X.P ops o v a (Ext0 w)→R E sv v →
            runPlan X.T call ops.toList (mkPlan X.T ops.toList (infs ops.toList ops.toList) k (m ||| (1 <<< i))) (putD tm' o.dst sv,st')=some l'→wpAny X.P .any ops Q (k+1) listed a w:=by
          intro v sv hy hv hrun
          refine wpAny_hoist (C:=Ext0 w) (D:=fun j=>D.testBit j=true) ho hselA hQ hbeh k listed a w ?_ (fun j oj hj hji hun hnD=>⟨hap j oj hj hji hun,.inr fun a1 w1 n w2 hc he=>?_⟩) hrd (Ext0.refl w) hy ?_
          · intro j hd
            rw [hL.bit]
            cases hb:m.testBit j with
            | false=>rfl
            | true =>
              have:(m &&& D).testBit j=true:=by rw [Nat.testBit_and,hb,hd]; rfl
              rw [hnd'] at this
              simp at this
          · have hjl:j<ops.size:=(Array.getElem?_eq_some_iff.1 hj).1
            have hj':ops.toList[j]?=some oj:=by simpa using hj
            have hst:=quietBut_ok hq j oj hj' (by omega) (by rw [Nat.zero_add,← hL.bitT hjl]; exact hun) (by
              rw [Nat.zero_add]
              cases hb:D.testBit j with
              | false=>rfl
              | true=>exact absurd hb hnD)
            obtain ⟨h5,h6⟩:=still_ok hT hst a1 w1 n w2 he
            exact ⟨h5,hc.trans h6⟩
          · exact plan_ok hT hP hR hC hQ hsel k (hL.set hlt) hrun g' (f'.put o.dst hv) (hl.mono (Env.le_refl E) hsub)
        cases b with
        | false =>
          simp only [cond_false] at hF
          exact key (.inr ⟨hwd,rfl⟩) (sv:=.tup []) (R_undef _) hF
        | true =>
          simp only [cond_true] at hF
          cases hp:readOp X.T tm' st' o.op with
          | none=>simp only [hp] at hF; cases hF
          | some sv =>
            simp only [hp] at hF
            obtain ⟨v,hv,hy⟩:=readOp_ok hT hR g' f' hp
            exact key (.inl ⟨hwd,fun w' hw'=>hy w' hw'⟩) hv hF
end SE
end
section
namespace SE
def envOf (ren:Ren) (E:Env):Env:=fun id=>match rnf ren id with
  | some (.z k)=>some (.z k)
  | some (.nm j)=>E j
  | none=>none
variable {X:Px} {own0:Nat→Prop} {w0 w:World} {E:Env} {st:St}
theorem cmpB_eq (c:Cmp) (x y:Int):cmpB c x y=cmpZ c x y:=by
  cases c <;> simp [cmpB,cmpZ]
theorem isNm_ok {ren:Ren} {id j:Nat} (h:isNm ren id j=true) (E:Env):envOf ren E id=E j:=by
  unfold isNm at h
  unfold envOf
  cases hl:rnf ren id with
  | none=>rw [hl] at h; cases h
  | some r =>
    rw [hl] at h
    cases r with
    | z k=>cases h
    | nm j'=>rw [nbeq h]
theorem instI_ok (g:G X own0 w0 E st w) {ren:Ren} {x y:SI} {z:Int} (h:instI st ren x y=true) (hy:SIok E y z):SIok (envOf ren E) x z:=by
  cases x with
  | r lo hi =>
    simp only [instI] at h
    cases hr:rngI st y with
    | none=>simp only [hr] at h; cases h
    | some p =>
      obtain ⟨l,hh⟩:=p
      simp only [hr,Bool.and_eq_true,decide_eq_true_eq] at h
      have:=rngI_ok g hr hy
      simp only [SIok]
      omega
  | a id =>
    cases y with
    | r l hh =>
      simp only [instI] at h
      cases hl:rnf ren id with
      | none=>simp only [hl] at h; cases h
      | some r =>
        cases r with
        | nm j=>simp only [hl] at h; cases h
        | z k =>
          simp only [hl,Bool.and_eq_true,decide_eq_true_eq] at h
          simp only [SIok] at hy ⊢
          simp only [envOf,hl]
          congr 2
          omega
    | a j =>
      simp only [instI,Bool.or_eq_true] at h
      rcases h with h | h
      · simp only [SIok] at hy ⊢
        rw [isNm_ok h]
        exact hy
      · cases hl:rnf ren id with
        | none=>simp only [hl] at h; cases h
        | some r =>
          cases r with
          | nm j=>simp only [hl] at h; cases h
          | z k =>
            cases hr:rngI st (.a j) with
            | none=>simp only [hl,hr] at h; cases h
            | some p =>
              obtain ⟨l,hh⟩:=p
              simp only [hl,hr,Bool.and_eq_true,decide_eq_true_eq] at h
              have:=rngI_ok g hr hy
              simp only [SIok,envOf,hl]
              congr 2
              omega
theorem instC_ok (g:G X own0 w0 E st w) {ren:Ren} {x y:SV} {v:Value} (h:instC st ren x y=true) (hy:R E y v):R (envOf ren E) x v:=by
  unfold instC at h
  split at h <;> try cases h
  · simp only [R]
  · simp only [Bool.and_eq_true] at h
    simp only [R] at hy ⊢
    obtain ⟨z,hz,e⟩:=hy
    exact ⟨z,instI_ok g h.2 hz,by rw [eqK_iff h.1]; exact e⟩
  · exact hy
  · exact hy
  · simp only [R]
    exact isB_ok h hy
  · simp only [Bool.and_eq_true,decide_eq_true_eq] at h
    simp only [R] at hy ⊢
    obtain ⟨z,hz,e⟩:=hy
    have hcd:=Cmp.toNat_inj (nbeq h.1)
    exact ⟨z,by rw [isNm_ok h.2.2]; exact hz,by rw [hcd,h.2.1]; exact e⟩
  · split at h
    · rename_i k hl
      rw [cmpB_eq] at h
      simp only [R] at hy ⊢
      exact ⟨k,by simp only [envOf,hl],by rw [h]; exact hy⟩
    · cases h
  · split at h
    · rename_i k hl
      rw [cmpB_eq,Bool.not_eq_true'] at h
      simp only [R] at hy ⊢
      exact ⟨k,by simp only [envOf,hl],by rw [h]; exact hy⟩
    · cases h
  · simp only [Bool.and_eq_true] at h
    simp only [R] at hy ⊢
    obtain ⟨n,hn,e⟩:=hy
    exact ⟨n,by rw [isNm_ok h.1]; exact hn,by rw [nbeq h.2]; exact e⟩
  · exact hy
  · simp only [R] at hy ⊢
    rw [isNm_ok h]
    exact hy
  · simp only [R] at hy ⊢
    rw [isNm_ok h]
    exact hy
  · simp only [Bool.and_eq_true] at h
    simp only [R] at hy ⊢
    rw [nbeq h.1,nbeq h.2]
    exact hy
  · simp only [Bool.and_eq_true] at h
    simp only [R] at hy ⊢
    rw [isNm_ok h.1,nbeq h.2.1,nbeq h.2.2.1,nbeq h.2.2.2]
    exact hy
  · exact hy
  · simp only [R] at hy ⊢
    rw [isNm_ok h]
    exact hy
  · exact hy
  · exact hy
  · simp only [R] at hy ⊢
    rw [isNm_ok h]
    exact hy
theorem instL_ok (g:G X own0 w0 E st w) {ren:Ren}:∀ (l m:List SV) {vs:List Value},instL st ren l m=true→RL E m vs→RL (envOf ren E) l vs
  | [],m,vs,h,hm=>by
    cases m with
    | nil=>simpa only [RL] using hm
    | cons a b=>simp only [instL] at h; cases h
  | x :: l,m,vs,h,hm=>by
    cases m with
    | nil=>simp only [instL] at h; cases h
    | cons y m =>
      simp only [instL,Bool.and_eq_true] at h
      simp only [RL] at hm ⊢
      obtain ⟨v,vs',e,h1,h2⟩:=hm
      exact ⟨v,vs',e,instC_ok g h.1 h1,instL_ok g l m h.2 h2⟩
theorem inst2_ok (g:G X own0 w0 E st w) {ren:Ren} {x y:SV} {v:Value} (h:inst2 st ren x y=true) (hy:R E y v):R (envOf ren E) x v:=by
  unfold inst2 at h
  split at h
  · simp only [R] at hy ⊢
    obtain ⟨cs,e,hl⟩:=hy
    exact ⟨cs,e,instL_ok g _ _ h hl⟩
  · exact instC_ok g h hy
theorem instVs_ok (g:G X own0 w0 E st w) {ren:Ren}:∀ (l m:List SV) {vs:List Value},instVs st ren l m=true→RL E m vs→RL (envOf ren E) l vs
  | [],m,vs,h,hm=>by
    cases m with
    | nil=>simpa only [RL] using hm
    | cons a b=>simp only [instVs] at h; cases h
  | x :: l,m,vs,h,hm=>by
    cases m with
    | nil=>simp only [instVs] at h; cases h
    | cons y m =>
      simp only [instVs,Bool.and_eq_true] at h
      simp only [RL] at hm ⊢
      obtain ⟨v,vs',e,h1,h2⟩:=hm
      exact ⟨v,vs',e,inst2_ok g h.1 h1,instVs_ok g l m h.2 h2⟩
theorem inst_ok (g:G X own0 w0 E st w) {ren:Ren} (x y:SV) {v:Value} (h:inst st ren x y=true) (hy:R E y v):R (envOf ren E) x v:=by
  unfold inst at h
  split at h
  · simp only [R] at hy ⊢
    obtain ⟨cs,e,hl⟩:=hy
    exact ⟨cs,e,instL_ok g _ _ h hl⟩
  · simp only [R] at hy ⊢
    obtain ⟨cs,e,hl⟩:=hy
    exact ⟨cs,e,instVs_ok g _ _ h hl⟩
  · simp only [Bool.and_eq_true] at h
    simp only [R] at hy ⊢
    obtain ⟨u,e,hu⟩:=hy
    exact ⟨u,by rw [nbeq h.1]; exact e,inst2_ok g h.2 hu⟩
  · exact instC_ok g h hy
theorem fitH_ok {b:St} {ren:Ren} {nid:Nat}:∀ {l:List (Nat×Blk)} {id:Nat} {blk:Blk},fitH b ren nid l=true→lk l id=some blk→∃ j blk',id<nid∧rnf ren id=some (.nm j)∧lk b.heap j=some blk'∧instB b ren blk blk'=true
  | [],id,blk,h,e=>by simp [lk] at e
  | (i, x)::l,id,blk,h,e=>by
    simp only [fitH,Bool.and_eq_true] at h
    rw [lk_cons] at e
    split at e
    · rename_i hi
      subst hi
      cases e
      have hlt:=Nat.le_of_ble_eq_true h.1
      have h1:=h.2.1
      revert h1
      split
      · rename_i j hj
        split
        · rename_i blk' hb
          intro h1
          exact ⟨j,blk',hlt,hj,hb,h1⟩
        · intro h1; cases h1
      · intro h1; cases h1
    · exact fitH_ok h.2.2 e
theorem fitT_ok {b:St} {ren:Ren}:∀ {l:List (Nat×Int×Int)} {id:Nat} {lo hi:Int},fitT b ren l=true→lk l id=some (lo,hi) →
    (∃ k,rnf ren id=some (.z k)∧lo≤k∧k≤hi)∨∃ j x y,rnf ren id=some (.nm j)∧lk b.tab j=some (x,y)∧lo≤x∧y≤hi
  | [],id,lo,hi,h,e=>by simp [lk] at e
  | (i, a,c)::l,id,lo,hi,h,e=>by
    simp only [fitT,Bool.and_eq_true] at h
    rw [lk_cons] at e
    split at e
    · rename_i hi
      subst hi
      cases e
      have h1:=h.1
      revert h1
      split
      · rename_i k hk
        intro h1
        simp only [Bool.and_eq_true,decide_eq_true_eq] at h1
        exact .inl ⟨k,hk,h1.1,h1.2⟩
      · rename_i j hj
        split
        · rename_i x y hb
          intro h1
          simp only [Bool.and_eq_true,decide_eq_true_eq] at h1
          exact .inr ⟨j,x,y,hj,hb,h1.1,h1.2⟩
        · intro h1; cases h1
      · intro h1; cases h1
    · exact fitT_ok h.2 e
theorem fitS_ok {b:St} {ren:Ren} {h0:List (Nat×Blk)}:∀ {l:List (Nat×SlI)} {id:Nat} {si:SlI},fitS b ren h0 l=true→lk l id=some si →
    ∃ j s',rnf ren id=some (.nm j)∧lk b.sls j=some s'∧fitSl b ren h0 si s'=true
  | [],id,si,h,e=>by simp [lk] at e
  | (i, x)::l,id,si,h,e=>by
    simp only [fitS,Bool.and_eq_true] at h
    rw [lk_cons] at e
    split at e
    · rename_i hi
      subst hi
      cases e
      have h1:=h.1
      revert h1
      split
      · rename_i j hj
        split
        · rename_i s' hb
          intro h1
          exact ⟨j,s',hj,hb,h1⟩
        · intro h1; cases h1
      · intro h1; cases h1
    · exact fitS_ok h.2 e
theorem notIn_ok {ren:Ren} {j:Nat}:∀ {l:List (Nat×Blk)} {id:Nat} {blk:Blk},notIn ren j l=true→lk l id=some blk→rnf ren id≠some (.nm j)
  | [],id,blk,h,e=>by simp [lk] at e
  | (i,x)::l,id,blk,h,e=>by
    simp only [notIn,Bool.and_eq_true] at h
    rw [lk_cons] at e
    split at e
    · rename_i hi
      subst hi
      intro hc
      have h1:=h.1
      rw [hc] at h1
      simp only [Bool.not_eq_true'] at h1
      rw [Nat.beq_refl] at h1
      cases h1
    · exact notIn_ok h.2 e
theorem oneH_ok {ren:Ren}:∀ {l:List (Nat×Blk)} {id id':Nat} {b b':Blk} {j:Nat},oneH ren l=true→lk l id=some b→lk l id'=some b'→rnf ren id=some (.nm j)→rnf ren id'=some (.nm j)→id=id'
  | [],id,id',b,b',j,h,e,e',h1,h2=>by simp [lk] at e
  | (i, x)::l,id,id',b,b',j,h,e,e',h1,h2=>by
    simp only [oneH,Bool.and_eq_true] at h
    rw [lk_cons] at e e'
    split at e
    · rename_i hi
      subst hi
      split at e'
      · rename_i hi'; exact hi'.symm
      · have h3:=h.1
        rw [h1] at h3
        exact absurd h2 (notIn_ok h3 e')
    · split at e'
      · rename_i hi'
        subst hi'
        have h3:=h.1
        rw [h2] at h3
        exact absurd h1 (notIn_ok h3 e)
      · exact oneH_ok h.2 e e' h1 h2
theorem below_ok {n:Nat}:∀ {l:List (Nat×Rn)} {id:Nat},below n l=true→n≤id→lk l id=none
  | [],id,h,hn=>rfl
  | (i,x)::l,id,h,hn=>by
    simp only [below,Bool.and_eq_true] at h
    have h1:=Nat.le_of_ble_eq_true h.1
    rw [lk_cons,if_neg (by omega)]
    exact below_ok h.2 hn
theorem hasF_mem {x:Nat×List SV}:∀ {l:List (Nat×List SV)},hasF x l=true→x∈l
  | [],h=>by cases h
  | y :: l,h=>by
    simp only [hasF,cond_eq_ite,Bool.and_eq_true] at h
    split at h
    · rename_i hh
      have h1:=nbeq hh.1
      have h2:=SV.beqL_eq _ _ hh.2
      have:x=y:=by cases x; cases y; simp only at h1 h2; rw [h1,h2]
      rw [this]
      exact List.mem_cons_self
    · exact List.mem_cons_of_mem _ (hasF_mem h)
theorem fitF_ok {b:St} {Z:Nat→List SV→St→Bool} {ren:Ren}:∀ {l:List (Nat×List SV)},fitF b Z ren l=true→∀ x∈l,∃ svs',instL b ren x.2 svs'=true∧((x.1,svs')∈b.facts∨Z x.1 svs' b=true)
  | [],h,x,hx=>by cases hx
  | (k,svs)::l,h,x,hx=>by
    simp only [fitF,Bool.and_eq_true,Bool.or_eq_true] at h
    rcases List.mem_cons.1 hx with rfl | hx
    · refine ⟨resL ren svs,h.1.1,?_⟩
      rcases h.1.2 with h2 | h2
      · exact .inl (hasF_mem h2)
      · exact .inr h2
    · exact fitF_ok h.2 x hx
def FzOk (X:Px) (Z:Nat→List SV→St→Bool):Prop:=∀ own0 w0 E st w,G X own0 w0 E st w→∀ k svs,Z k svs st=true→∃ vs,RL E svs vs∧X.UF k vs
theorem noZ_ok (X:Px):FzOk X noZ:=fun _ _ _ _ _ _ k svs h=>by cases h
def GlOk (X:Px):Prop:=∀ gg cs,X.T.gl gg=some cs→∀ E E' vs,RL E cs vs→RL E' cs vs
theorem fit_gen {S:St} (g:G X own0 w0 E st w) {Z:Nat→List SV→St→Bool} {ren:Ren} (h:fit S st Z ren=true) (hgl:GlOk X) (hZ:FzOk X Z) {own1:Nat→Prop} {w1:World}
    (size:w1.heap.size≤w.heap.size) (os:w.os=w1.os) (tape:w.tape=w1.tape) (output:w.output=w1.output) (frame:∀ n,n<w1.heap.size→¬ own1 n→w.heap[n]?=w1.heap[n]?)
    (hown:∀ id blk n,lk S.heap id=some blk→blk.isRo=false→envOf ren E id=some (.blk n)→own0 n∨w0.heap.size≤n→own1 n∨w1.heap.size≤n):G X own1 w1 (envOf ren E) S w:=by
  simp only [fit,Bool.and_eq_true] at h
  obtain ⟨hH,hT,hS,hO,hB,hL,hF⟩:=h
  have hheap:∀ id blk,lk S.heap id=some blk→∃ j blk',id<S.nid∧rnf ren id=some (.nm j)∧lk st.heap j=some blk'∧instB st ren blk blk'=true∧envOf ren E id=E j:=by
    intro id blk hl
    obtain ⟨j,blk',h0,h1,h2,h3⟩:=fitH_ok hH hl
    exact ⟨j,blk',h0,h1,h2,h3,by simp only [envOf,h1]⟩
  refine ⟨size,os,tape,output,frame,?_,?_,?_,?_,?_,?_,?_⟩
  · intro id blk hl
    obtain ⟨j,blk',h0,h1,h2,h3,h4⟩:=hheap id blk hl
    rcases g.heap j blk' h2 with ⟨q0,q1,q2⟩ | ⟨n,q1,q2,q3,q4⟩
    · have:blk=.opq:=by
        subst q0
        cases blk <;> simp [instB] at h3
        rfl
      exact .inl ⟨this,h0,fun n hn=>⟨(q2 n (by rw [← h4]; exact hn)).1,hown id blk n hl (by rw [this]; rfl) hn (q2 n (by rw [← h4]; exact hn)).2⟩⟩
    · have hro:blk.isRo=true∨own1 n∨w1.heap.size≤n:=by
        cases hb:blk.isRo with
        | true=>exact .inl rfl
        | false =>
          refine .inr (hown id blk n hl hb (by rw [h4]; exact q1) ?_)
          rcases q3 with q3 | q3
          · cases blk <;> cases blk' <;> simp [instB,Blk.isRo] at h3 hb q3
          · exact q3
      refine .inr ⟨n,by rw [h4]; exact q1,q2,hro,?_⟩
      cases blk <;> cases blk' <;> simp only [instB,Bool.false_eq_true,Bool.and_eq_true] at h3
      · obtain ⟨vs,k1,k2⟩:=q4
        exact ⟨vs,by rw [nbeq h3.1]; exact k1,instL_ok g _ _ h3.2 k2⟩
      · obtain ⟨vs,len,cap,k1,k2,k3,k4,k5,k6⟩:=q4
        have hlen:=nbeq h3.2.2.2.1
        exact ⟨vs,len,cap,by rw [nbeq h3.1]; exact k1,by rw [isNm_ok h3.2.2.1]; exact k2,by rw [nbeq h3.2.1]; exact k3,by rw [hlen,nbeq h3.2.1]; exact k4,k5,by rw [hlen]; exact instL_ok g _ _ h3.2.2.2.2 k6⟩
      · trivial
      · obtain ⟨vs,k1,k2⟩:=q4
        exact ⟨vs,by rw [nbeq h3.1]; exact k1,instL_ok g _ _ h3.2 k2⟩
      · obtain ⟨vs,k1,k2⟩:=q4
        exact ⟨vs,by rw [nbeq h3.1]; exact k1,instL_ok g _ _ h3.2 k2⟩
  · intro id id' b b' n h1 h2 h3 h4
    obtain ⟨j,blk,p0,p1,p2,p3,p4⟩:=hheap id b h1
    obtain ⟨j',blk',q0,q1,q2,q3,q4⟩:=hheap id' b' h2
    rw [p4] at h3
    rw [q4] at h4
    have:=g.inj j j' blk blk' n p2 q2 h3 h4
    subst this
    exact oneH_ok hO h1 h2 p1 q1
  · intro id lo hi hl
    rcases fitT_ok hT hl with ⟨k,h1,h2,h3⟩ | ⟨j,x,y,h1,h2,h3,h4⟩
    · exact ⟨k,by simp only [envOf,h1],h2,h3⟩
    · obtain ⟨z,q1,q2,q3⟩:=g.tab j x y h2
      exact ⟨z,by simp only [envOf,h1]; exact q1,by omega,by omega⟩
  · intro id si hl
    obtain ⟨j,s',h1,h2,h3⟩:=fitS_ok hS hl
    have hs:=g.sls j s' h2
    have hE:envOf ren E id=E j:=by simp only [envOf,h1]
    cases si <;> cases s' <;> simp only [fitSl,Bool.false_eq_true,Bool.and_eq_true] at h3
    · obtain ⟨base,ln,cap,k1,k2,k3,k4,k5⟩:=hs
      refine ⟨base,ln,cap,by rw [hE]; exact k1,instI_ok g h3 k2,k3,k4,fun x hx=>⟨(k5 x hx).1,fun bid blk hb hc=>?_⟩⟩
      obtain ⟨jb,blk',p0,p1,p2,p3,p4⟩:=hheap bid blk hb
      rw [p4] at hc
      exact (k5 x hx).2 jb blk' p2 hc
    · obtain ⟨m,cap,k1,k2⟩:=hs
      have:=nbeq h3.2
      subst this
      exact ⟨m,cap,by rw [isNm_ok h3.1]; exact k1,by rw [hE]; exact k2⟩
    · rename_i c n l d m k
      obtain ⟨q1,q2,q3,q4⟩:=h3
      obtain ⟨h0,base,ln,cap,vs,k1,k2,k3,k4⟩:=hs
      have:=nbeq q2
      subst this
      refine ⟨?_,base,ln,cap,vs,by rw [hE]; exact k1,instL_ok g _ _ q3 k2,fun x hx=>by rw [isNm_ok q1]; exact k3 x hx,k4⟩
      unfold isOpq at q4
      split at q4
      · rename_i hh; exact hh
      · cases q4
  · intro id hid
    have hlim:=Nat.le_of_ble_eq_true hL
    have:rnf ren id=none:=by
      unfold rnf
      rw [below_ok hB hid]
      have hb:Nat.blt id ren.lim=false:=by
        cases hb:Nat.blt id ren.lim with
        | false=>rfl
        | true=>have:=Nat.le_of_ble_eq_true hb; omega
      simp only [hb,cond_false]
    simp only [envOf,this]
  · intro gg cs hg
    obtain ⟨k1,k2,vs,e,fr,k3,k4⟩:=g.gl gg cs hg
    refine ⟨k1,fun id blk hl hc=>?_,vs,e,fr,k3,hgl gg cs hg _ _ _ k4⟩
    obtain ⟨j,blk',p0,p1,p2,p3,p4⟩:=hheap id blk hl
    rw [p4] at hc
    exact k2 j blk' p2 hc
  · intro x hx
    obtain ⟨svs',h1,h2⟩:=fitF_ok hF x hx
    rcases h2 with h2 | h2
    · obtain ⟨vs,k1,k2⟩:=g.facts _ h2
      exact ⟨vs,instL_ok g _ _ h1 k1,k2⟩
    · obtain ⟨vs,k1,k2⟩:=hZ own0 w0 E st w g _ _ h2
      exact ⟨vs,instL_ok g _ _ h1 k1,k2⟩
theorem fit_ok {S:St} (g:G X own0 w0 E st w) {Z:Nat→List SV→St→Bool} {ren:Ren} (h:fit S st Z ren=true) (hgl:GlOk X) (hZ:FzOk X Z) :
    G X (fun n=>∃ id blk,lk S.heap id=some blk∧blk.isRo=false∧envOf ren E id=some (.blk n)) w (envOf ren E) S w :=
  fit_gen g h hgl hZ (Nat.le_refl _) rfl rfl rfl (fun n _ _=>rfl) fun id blk n h1 hr h2 _=>.inl ⟨id,blk,h1,hr,h2⟩
theorem fit_same {S:St} (g:G X own0 w0 E st w) {Z:Nat→List SV→St→Bool} {ren:Ren} (h:fit S st Z ren=true) (hgl:GlOk X) (hZ:FzOk X Z):G X own0 w0 (envOf ren E) S w :=
  fit_gen g h hgl hZ g.size g.os g.tape g.output g.frame fun id blk n h1 hr h2 h3=>h3
theorem above_ok {n:Nat}:∀ {l:List (Nat×Rn)} {id:Nat},above n l=true→id<n→lk l id=none
  | [],id,h,hn=>rfl
  | (i,x)::l,id,h,hn=>by
    simp only [above,Bool.and_eq_true] at h
    have h1:=Nat.le_of_ble_eq_true h.1
    rw [lk_cons,if_neg (by omega)]
    exact above_ok h.2 hn
theorem caseO_ok (hgl:GlOk X) {v:SV} {S:St} {o:SV×St} {r:Ren} (h:caseO v S o r=true) {x:Value} (hx:R E o.1 x) (g:G X own0 w0 E o.2 w):E.le (envOf r E)∧R (envOf r E) v x∧G X own0 w0 (envOf r E) S w:=by
  simp only [caseO,Bool.and_eq_true] at h
  obtain ⟨h1,h2,h3,h4⟩:=h
  refine ⟨fun id y hy=>?_,inst_ok g _ _ h1 hx,fit_same g h2 hgl (noZ_ok X)⟩
  have hlt:id<r.lim:=by
    have h3:=Nat.le_of_ble_eq_true h3
    apply Nat.lt_of_not_le
    intro hn
    rw [g.dom id (by omega)] at hy
    cases hy
  have:rnf r id=some (.nm id):=by
    unfold rnf
    rw [above_ok h4 hlt]
    have:Nat.blt id r.lim=true:=Nat.ble_eq_true_of_le hlt
    simp only [this,cond_true]
  simp only [envOf,this]
  exact hy
theorem addJ_ok (hgl:GlOk X) {e:Ending} {a:SV×St}:∀ {acc:Out},Outs X own0 w0 E (a::acc) e w→Outs X own0 w0 E (addJ a acc) e w
  | [],h=>h
  | b :: l, h => by
    have tail:Outs X own0 w0 E (a::b::l) e w→Outs X own0 w0 E (b::addJ a l) e w:=by
      rintro ⟨o,ho,E',x,h1,h2,h3,h4⟩
      have hr:∀ l':Out,o∈a::l'→Outs X own0 w0 E (addJ a l') e w→True:=fun _ _ _=>trivial
      rcases List.mem_cons.1 ho with rfl | ho
      · obtain ⟨o',ho',r⟩:=addJ_ok (acc:=l) hgl ⟨o,List.mem_cons_self,E',x,h1,h2,h3,h4⟩
        exact ⟨o',List.mem_cons_of_mem _ ho',r⟩
      · rcases List.mem_cons.1 ho with rfl | ho
        · exact ⟨o,List.mem_cons_self,E',x,h1,h2,h3,h4⟩
        · obtain ⟨o',ho',r⟩:=addJ_ok (acc:=l) hgl ⟨o,List.mem_cons_of_mem _ ho,E',x,h1,h2,h3,h4⟩
          exact ⟨o',List.mem_cons_of_mem _ ho',r⟩
    simp only [addJ,cond_eq_ite]
    split
    · rename_i hm
      have key:∀ (v:SV) (S:St) (rb ra:Ren),Outs X own0 w0 E (if (caseO v S b rb&&caseO v S a ra)=true then (v,S)::l else b::addJ a l) e w:=by
        intro v S rb ra
        split
        · rename_i hc
          simp only [Bool.and_eq_true] at hc
          obtain ⟨o,ho,E',x,h1,h2,h3,h4⟩:=h
          rcases List.mem_cons.1 ho with rfl | ho
          · obtain ⟨k1,k2,k3⟩:=caseO_ok hgl hc.2 h3 h4
            exact ⟨_,List.mem_cons_self,_,x,Env.le_trans h1 k1,h2,k2,k3⟩
          · rcases List.mem_cons.1 ho with rfl | ho
            · obtain ⟨k1,k2,k3⟩:=caseO_ok hgl hc.1 h3 h4
              exact ⟨_,List.mem_cons_self,_,x,Env.le_trans h1 k1,h2,k2,k3⟩
            · exact ⟨o,List.mem_cons_of_mem _ ho,E',x,h1,h2,h3,h4⟩
        · exact tail h
      exact key _ _ _ _
    · exact tail h
theorem joinAll_ok (hgl:GlOk X) {e:Ending}:∀ {l acc:Out},Outs X own0 w0 E (acc++l) e w→Outs X own0 w0 E (joinAll acc l) e w
  | [],acc,h=>by simpa [joinAll] using h
  | a :: l,acc,h=>by
    simp only [joinAll]
    apply joinAll_ok hgl
    obtain ⟨o,ho,r⟩:=h
    rcases List.mem_append.1 ho with h1 | h1
    · obtain ⟨o',h2,r'⟩:=addJ_ok (acc:=acc) (a:=a) hgl ⟨o,List.mem_cons_of_mem _ h1,r⟩
      exact ⟨o',List.mem_append.2 (.inl h2),r'⟩
    · rcases List.mem_cons.1 h1 with rfl | h1
      · obtain ⟨o',h2,r'⟩:=addJ_ok (acc:=acc) (a:=o) hgl ⟨o,List.mem_cons_self,r⟩
        exact ⟨o',List.mem_append.2 (.inl h2),r'⟩
      · exact ⟨o,List.mem_append.2 (.inr h1),r⟩
theorem joinO_ok (hgl:GlOk X) {T:Tb} {gi:Nat} {l:Out} {e:Ending} (h:Outs X own0 w0 E l e w):Outs X own0 w0 E (joinO T gi l) e w:=by
  unfold joinO
  simp only [cond_eq_ite]
  split
  · exact joinAll_ok hgl (by simpa using h)
  · exact h
theorem RL_setN {E:Env}:∀ {l:List SV} {vs:List Value} {i:Nat} {x y:SV},RL E l vs→nth l i=some x→(∀ v,R E x v→R E y v)→RL E (setN l i y) vs
  | [],vs,i,x,y,h,e,hy=>by cases i <;> cases e
  | a::l,vs,0,x,y,h,e,hy=>by
    cases e
    simp only [RL,setN] at h ⊢
    obtain ⟨v,vs',e,h1,h2⟩:=h
    exact ⟨v,vs',e,hy v h1,h2⟩
  | a::l,vs,i+1,x,y,h,e,hy=>by
    simp only [RL,setN] at h ⊢
    obtain ⟨v,vs',e',h1,h2⟩:=h
    exact ⟨v,vs',e',h1,RL_setN h2 e hy⟩
theorem casesN_mem {k:IntKind} {id i:Nat} {args:List SV} {st:SE.St}:∀ (n:Nat) (lo z:Int),lo≤z→z<lo+n→(setN args i (.int k (.r z z)),{ st with tab:=upd st.tab id (z,z) })∈casesN k id i args st n lo
  | 0,lo,z,h1,h2=>by omega
  | n+1,lo,z,h1,h2=>by
    simp only [casesN,fI_eq]
    by_cases h:z=lo
    · subst h; exact List.mem_cons_self
    · exact List.mem_cons_of_mem _ (casesN_mem n (lo+1) z (by omega) (by omega))
theorem splitA_ok (g:G X own0 w0 E st w) {T:Tb} {gi:Nat} {args:List SV} {vs:List Value} (h:RL E args vs):∃ p∈splitA T gi args st,G X own0 w0 E p.2 w∧RL E p.1 vs:=by
  unfold splitA
  split
  · exact ⟨_,List.mem_singleton.2 rfl,g,h⟩
  · rename_i i _
    split
    · rename_i k id hn
      split
      · rename_i lo hi hl
        simp only [cond_eq_ite,Bool.and_eq_true,decide_eq_true_eq]
        split
        · rename_i hc
          obtain ⟨z,hz,h1,h2⟩:=g.tab id lo hi hl
          refine ⟨_,casesN_mem (k:=k) (id:=id) (i:=i) (args:=args) (st:=st) _ lo z h1 (by omega),g.setTab hz (Int.le_refl _) (Int.le_refl _),RL_setN h hn fun v hv=>?_⟩
          simp only [R,SIok] at hv ⊢
          obtain ⟨z',hz',e⟩:=hv
          rw [hz] at hz'
          cases hz'
          exact ⟨z,⟨Int.le_refl _,Int.le_refl _⟩,e⟩
        · exact ⟨_,List.mem_singleton.2 rfl,g,h⟩
      · exact ⟨_,List.mem_singleton.2 rfl,g,h⟩
    · exact ⟨_,List.mem_singleton.2 rfl,g,h⟩
theorem hasV_ok (g:G X own0 w0 E st w):∀ {l:List SV},hasV st l=true→∃ vs,RL E l vs
  | [],h=>⟨[],by simp [RL]⟩
  | x :: l,h=>by
    cases x <;> try (simp only [hasV,Bool.false_eq_true] at h)
    rename_i k i
    cases i with
    | a id =>
      simp only [hasV,Bool.and_eq_true] at h
      obtain ⟨⟨lo,hi⟩,hl⟩:=Option.isSome_iff_exists.1 h.1
      obtain ⟨z,hz,_⟩:=g.tab id lo hi hl
      obtain ⟨vs,hv⟩:=hasV_ok g h.2
      exact ⟨.int k z::vs,RL_cons.2 ⟨by simp only [R,SIok]; exact ⟨z,hz,rfl⟩,hv⟩⟩
    | r a b =>
      simp only [hasV,Bool.and_eq_true,decide_eq_true_eq] at h
      obtain ⟨vs,hv⟩:=hasV_ok g h.2
      exact ⟨.int k a::vs,RL_cons.2 ⟨by simp only [R,SIok]; exact ⟨a,⟨Int.le_refl _,h.1⟩,rfl⟩,hv⟩⟩
theorem nilOwn_ok (hemp:∀ nm args,X.T.emp nm args=true→∀ E vs,RL E args vs→X.RP nm vs []) (g:G X own0 w0 E st w) {b i nm:Nat} {args:List SV} {st':SE.St}
    (e:nilOwn X.T st b i nm args=some st'):∃ E',E.le E'∧G X own0 w0 E' st' w:=by
  unfold nilOwn at e
  split at e
  · rename_i el cs hl
    split at e
    · rename_i hn hc
      cases e
      simp only [Bool.and_eq_true] at hc
      obtain ⟨vs,hvs⟩:=hasV_ok g hc.2.2
      obtain ⟨⟨oe,osz⟩,hoe⟩:=Option.isSome_iff_exists.1 hc.1
      have hn0:=g.nid_none
      have hle:=Env.le_upd (x:=EV.sl none 0 0) hn0
      have g1:=g.mono hle (fun id hid=>Env.upd_ne _ _ (by omega)) (nid:=st.nid+2) (by omega) (fun id hid=>by
        rw [Env.upd_ne _ _ (by omega)]
        exact g.dom id (by omega))
      rcases g.heap b _ hl with ⟨h0,_⟩ | ⟨n,h1,h2,h3,h4⟩
      · cases h0
      obtain ⟨us,k1,k2⟩:=h4
      have hb:b<st.nid:=g.hid hl
      have g2:=g1.setO (id:=b) (n:=n) (b:=.cells el cs) (b':=.cells el (setN cs i (.sl st.nid))) hl rfl (hle _ _ h1) (w':=w) (fun k hk=>rfl) rfl rfl rfl rfl
        ⟨us,k1,RL_setN (k2.mono hle) hn fun v hv=>by
          simp only [R] at hv ⊢
          exact ⟨none,0,0,Env.upd_self _ _ _,hv⟩⟩
      refine ⟨_,hle,?_⟩
      have hnid:∀ id blk,lk (upd st.heap b (.cells el (setN cs i (.sl st.nid)))) id=some blk→id<st.nid:=fun id blk h=>by
        rw [lk_upd] at h
        split at h
        · rename_i hh; subst hh; exact hb
        · exact g.hid h
      refine ⟨g2.size,g2.os,g2.tape,g2.output,g2.frame,?_,?_,g2.tab,?_,g2.dom,?_,g2.facts⟩
      · intro id blk hl'
        simp only [lk_cons] at hl'
        split at hl'
        · rename_i hh
          cases hl'
          refine .inl ⟨rfl,by simp only; omega,fun m hm=>?_⟩
          rw [hh,Env.upd_ne _ _ (by omega),g.dom _ (by omega)] at hm
          cases hm
        · exact g2.heap id blk hl'
      · intro id id' b1 b2 m p1 p2 p3 p4
        simp only [lk_cons] at p1 p2
        split at p1
        · rename_i hh
          rw [hh,Env.upd_ne _ _ (by omega),g.dom _ (by omega)] at p3
          cases p3
        · split at p2
          · rename_i hh
            rw [hh,Env.upd_ne _ _ (by omega),g.dom _ (by omega)] at p4
            cases p4
          · exact g2.inj id id' b1 b2 m p1 p2 p3 p4
      · intro id si hl'
        simp only [lk_cons] at hl'
        split at hl'
        · rename_i hh
          subst hh
          cases hl'
          refine ⟨by simp [lk_cons],none,0,0,.int .i64 0::vs,Env.upd_self _ _ _,?_,fun x hx=>(by cases hx),oe,osz,vs,hoe,rfl,.inl ⟨rfl,rfl,rfl,hemp nm args hc.2.1 E vs hvs⟩⟩
          refine RL_cons.2 ⟨?_,hvs.mono hle⟩
          simp only [R,SIok]
          exact ⟨0,⟨Int.le_refl _,Int.le_refl _⟩,rfl⟩
        · have hs:=g2.sls id si hl'
          cases si with
          | bytes len =>
            obtain ⟨base,ln,cap,q1,q2,q3,q4,q5⟩:=hs
            refine ⟨base,ln,cap,q1,q2,q3,q4,fun x hx=>⟨(q5 x hx).1,fun bid blk hb' hc'=>?_⟩⟩
            simp only [lk_cons] at hb'
            split at hb'
            · rename_i hh
              rw [hh,Env.upd_ne _ _ (by omega),g.dom _ (by omega)] at hc'
              cases hc'
            · exact (q5 x hx).2 bid blk hb' hc'
          | row b l=>exact hs
          | own b2 nm2 args2 =>
            obtain ⟨q0,q1⟩:=hs
            refine ⟨?_,q1⟩
            simp only [lk_cons]
            have:=hnid b2 _ q0
            rw [if_neg (by omega)]
            exact q0
      · intro gg cs' hg
        obtain ⟨q1,q2,q3⟩:=g2.gl gg cs' hg
        refine ⟨q1,fun id blk hl' hc'=>?_,q3⟩
        simp only [lk_cons] at hl'
        split at hl'
        · rename_i hh
          rw [hh,Env.upd_ne _ _ (by omega),g.dom _ (by omega)] at hc'
          cases hc'
        · exact q2 id blk hl' hc'
    · cases e
  · cases e
theorem nilOwns_ok (hemp:∀ nm args,X.T.emp nm args=true→∀ E vs,RL E args vs→X.RP nm vs []):∀ {E:Env} {st:SE.St},G X own0 w0 E st w→∀ l:List (Nat×Nat×Nat×List SV),∃ E',E.le E'∧G X own0 w0 E' (nilOwns X.T st l) w
  | E,st,g,[]=>⟨E,Env.le_refl E,g⟩
  | E,st,g,(b,i,nm,args)::l=>by
    unfold nilOwns
    split
    · rename_i st' hs
      rw [fStK_eq]
      obtain ⟨E1,h1,g1⟩:=nilOwn_ok hemp g hs
      obtain ⟨E2,h2,g2⟩:=nilOwns_ok hemp g1 l
      exact ⟨E2,Env.le_trans h1 h2,g2⟩
    · exact ⟨E,Env.le_refl E,g⟩
end SE
end
end Go.Proofs.YtdgejnakakjgfaaGreatDoor
