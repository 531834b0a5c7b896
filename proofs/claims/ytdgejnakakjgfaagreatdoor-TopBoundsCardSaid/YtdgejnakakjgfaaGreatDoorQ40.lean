/- What a law keeps while it goes over its events. The head of the laws: the run of the zero policy. The head of the laws. What a law begins with. TopBounds. What comes in: the package's variables. What comes in: a policy. -/
import Derived.Test.YtdgejnakakjgfaaGreatDoorRows
import Derived.Test.YtdgejnakakjgfaaGreatDoorQ39
import Derived.Test.YtdgejnakakjgfaaGreatDoorQ38
import Derived.Test.YtdgejnakakjgfaaGreatDoorQ12
import Derived.Test.YtdgejnakakjgfaaGreatDoorQ21
import Derived.LoopNIn
import Derived.OpenShut
import Derived.MakeChecks
set_option linter.unusedVariables false
set_option linter.unusedSimpArgs false
set_option maxRecDepth 100000
namespace Go.Proofs.YtdgejnakakjgfaaGreatDoor
section
namespace SE
open Go.RowKit Mc In
variable {w w' wr wr':World} {pc:Array Value} {M r base hi:Nat} {v:Value} {es:List Ev} {MO:Foot} {od:Option Num}
structure LawL (pc:Array Value) (w:World) (M r base hi:Nat) (v:Value) (es:List Ev) (MO:Foot) (od:Option Num) (wr:World):Prop where
  mach:MachD pc w M MO wr od
  bel:Below w.heap.size w wr
  top:hi≤wr.heap.size
  rlo:w.heap.size≤r∧r<wr.heap.size∧¬ MO r
  pol:wr.heap[r]?=some (.cells pc 28 (0,0))
  own:wr.ownsRow base 48 10 v es.length (es.flatMap Ev.cells)
  olt:∀ g,v.ownBlock=some g→g<hi
  ev:∀ e∈es,EvF base wr e
  elt:∀ e∈es,∀ x,e.B=some x→x.block<hi
  far:∀ n,base≤n→n<hi→¬ MO n
  blo:w.heap.size≤base
theorem LawL.lt (h:LawL pc w M r base hi v es MO od wr):∀ n,MO n→n<wr.heap.size:=h.mach.lt
theorem LawL.upd (hw:GlW w) (h:LawL pc w M r base hi v es MO od wr) (hsz:wr.heap.size≤wr'.heap.size) (hs:∀ n,n<wr.heap.size→(n=r∨(base≤n∧n<hi)∨MO n∨n<w.heap.size)→wr'.heap[n]?=wr.heap[n]?)
    (ho:wr'.os=wr.os) (ht:wr'.tape=wr.tape) (hu:wr'.output=wr.output):LawL pc w M r base hi v es MO od wr':=by
  have hb:Below w.heap.size w wr':=⟨ho.trans h.bel.os,ht.trans h.bel.tape,hu.trans h.bel.output,Nat.le_trans h.bel.size hsz,fun n hn=>by
    have:=h.bel.size
    rw [hs n (by omega) (.inr (.inr (.inr hn)))]
    exact h.bel.block n hn⟩
  refine ⟨h.mach.keep ⟨hsz,fun n hn=>hs n (h.lt n hn) (.inr (.inr (.inl hn))),ho,ht,hu⟩ (hw.belowW hb),hb,Nat.le_trans h.top hsz,⟨h.rlo.1,Nat.lt_of_lt_of_le h.rlo.2.1 hsz,h.rlo.2.2⟩,(hs r h.rlo.2.1 (.inl rfl)).trans h.pol,?_,h.olt,fun e he=>(h.ev e he).keep hsz fun x hx=>?_,h.elt,h.far,h.blo⟩
  · refine ownsRow_keep h.own fun g hg=>hs g (own_lt h.own hg).2 (.inr (.inl ⟨(own_lt h.own hg).1,h.olt g hg⟩))
  · exact hs _ ((h.ev e he).new x hx).2 (.inr (.inl ⟨((h.ev e he).new x hx).1,h.elt e he x hx⟩))
theorem LawL.more (hw:GlW w) (h:LawL pc w M r base hi v es MO od wr) (hb:Below wr.heap.size wr wr'):LawL pc w M r base hi v es MO od wr' :=
  h.upd hw hb.size (fun n hn _=>hb.block n hn) hb.os hb.tape hb.output
theorem LawL.start (hw:GlW w) {w3 w4:World} (hM:MachD pc w M MO w3 od) (hb:Below w.heap.size w w3) (hr:w.heap.size≤r) (hrM:¬ MO r) (hpol:w3.heap[r]?=some (.cells pc 28 (0,0))) (hF:FewI w3 es.length v es w4) :
    LawL pc w M r w3.heap.size w4.heap.size v es MO od w4:=by
  have h34:=hF.bel
  have hz:=h34.size
  have hb4:Below w.heap.size w w4:=⟨h34.os.trans hb.os,h34.tape.trans hb.tape,h34.output.trans hb.output,Nat.le_trans hb.size hz,fun n hn=>by
    have:=hb.size
    rw [h34.block n (by omega)]
    exact hb.block n hn⟩
  have hrl:=(Array.getElem?_eq_some_iff.1 hpol).1
  exact ⟨hM.keep ⟨hz,fun n hn=>h34.block n (hM.lt n hn),h34.os,h34.tape,h34.output⟩ (hw.belowW hb4),hb4,Nat.le_refl _,⟨hr,by omega,hrM⟩,(h34.block r hrl).trans hpol,hF.own,fun g hg=>(own_lt hF.own hg).2,fun e he=>(hF.ev e he).1,
    fun e he x hx=>((hF.ev e he).1.new x hx).2,fun n h1 h2 h3=>by have:=hM.lt n h3; omega,hb.size⟩
theorem own_form {n:Nat} {xs:List Value} (h:wr.ownsRow base 48 10 v n xs):∃ A c,v=.slice A n c∧n≤c∧c≤maxLen∧(0<n→∃ g,A=some ⟨g,0,none⟩):=by
  rcases h.2 with ⟨rfl,rfl⟩ | ⟨g,cap,cur,rfl,_,_,h1,h2,_⟩
  · exact ⟨none,0,rfl,Nat.le_refl _,Nat.zero_le _,fun h=>absurd h (by omega)⟩
  · exact ⟨_,_,rfl,h1,h2,fun _=>⟨g,rfl⟩⟩
theorem LawL.at_ {g c:Nat} (h:LawL pc w M r base hi (.slice (some ⟨g,0,none⟩) es.length c) es MO od wr) {i:Nat} (hi':i<es.length):∃ e,es[i]?=some e∧e∈es∧∀ (j:Nat) u,e.cells[j]?=some u→wr.cell? ⟨g,i*10+j,none⟩=some u:=by
  obtain ⟨e,he⟩:∃ e,es[i]?=some e:=⟨es[i],List.getElem?_eq_getElem hi'⟩
  refine ⟨e,he,List.mem_of_getElem? he,fun j u hu=>?_⟩
  have hr:=Reads.of_own h.own
  obtain ⟨ad,e1,_,e3⟩:=hr.2 (by
    rcases h.own.2 with ⟨h0,_⟩ | ⟨g',cap,cur,h0,_⟩
    · cases h0
    · cases h0; omega)
  cases e1
  have hj:j<10:=(List.getElem?_eq_some_iff.1 hu).1
  have:=e3 (i*10+j) u ((flat_get he hj).trans hu)
  rwa [add_at rfl,Nat.zero_add] at this
theorem LawL.after (h:LawL pc w M r base hi v es MO od wr) {MO':Foot} {od':Option Num} (h1:MachD pc w M MO' w' od') (hs:∀ n,MO' n→grow MO wr w' n) (h2:Frm MO wr w') (h3:Below w.heap.size w w'):LawL pc w M r base hi v es MO' od' w':=by
  have hng:∀ n,base≤n→n<hi→¬ MO' n:=fun n a b c=>by
    rcases hs n c with c | c
    · exact h.far n a b c
    · have:=h.top; omega
  refine ⟨h1,h3,Nat.le_trans h.top h2.size,⟨h.rlo.1,Nat.lt_of_lt_of_le h.rlo.2.1 h2.size,fun c=>by
    rcases hs r c with c | c
    · exact h.rlo.2.2 c
    · have:=h.rlo.2.1; omega⟩,(h2.same r h.rlo.2.1 h.rlo.2.2).trans h.pol,?_,h.olt,fun e he=>(h.ev e he).keep h2.size fun x hx=>?_,h.elt,hng,h.blo⟩
  · refine ownsRow_keep h.own fun g hg=>h2.same g (own_lt h.own hg).2 (h.far g (own_lt h.own hg).1 (h.olt g hg))
  · exact h2.same _ ((h.ev e he).new x hx).2 (h.far _ ((h.ev e he).new x hx).1 (h.elt e he x hx))
theorem LawL.step (hp:0≤mostOf pc) (hw:GlW w) (h:LawL pc w M r base hi v es MO od wr) {e:Ev} (he:e∈es) :
    Calls Tryz.prog 10 #[.pointer (some ⟨M,0,none⟩),.agg #[i64 e.k,i64 e.s,.slice e.B e.n e.c,.bool e.v,i64 e.x1,i64 e.x2,i64 e.x3,i64 e.x4,.bool e.g,.bool e.b]] wr fun e' w' =>
      ∃ t rs od',∃ MO':Foot,e'=.returned t∧LawL pc w M r base hi v es MO' od' w'∧(∀ n,MO' n→grow MO wr w' n)∧Frm MO wr w'∧ToldR (mostOf pc) w' t rs∧rs.length≤8000∧StepR e.k e.s e.b od od' rs∧∀ cs x n c,t=.agg cs→cs[13]?=some (.slice (some x) n c)→¬ MO' x.block:=by
  have q:=h.ev e he
  obtain ⟨x,hx⟩:=q.rd
  refine (machD_step hp hw h.bel h.mach q.k q.s q.x1 q.x2 q.x3 q.x4 hx q.n120 q.le q.row fun x hx=>⟨(q.new x hx).2,h.far _ (q.new x hx).1 (h.elt e he x hx)⟩).mono fun e' w' hh=>?_
  obtain ⟨t,rs,od',MO',rfl,h1,hs,h2,h3,h4,h5,h6,h7⟩:=hh
  exact ⟨t,rs,od',MO',rfl,h.after h1 hs h2 h3,hs,h2,h4,h5,h6,h7⟩
end SE
end
section
namespace SE
open Go.RowKit Mc
set_option maxHeartbeats 0
variable {w w':World}
def zPolL:List SV:=rep 5 (N 0)++rep 4 .nils++rep 47 (N 0)
def evZ:List SV:=[N 3,N 0,.nils,.ff,N 0,N 0,N 0,N 0,.ff,.ff]
def s14:SE.St:=⟨[(5,.ro 48 evZ)],[],[],50,[]⟩
def siteL:List SV:=rep 19 (N 0)++[.nils]++rep 5 .ff++rep 5 (N 0)++[.ff]
def fixL:List SV:=[N 4,N 1,N 0,N 0,N 0,N 0,N 2,N 4,N 0,N 2,N 4,N 0]
def zPolV:List Value:=List.replicate 5 (i64 0)++List.replicate 4 (.slice none 0 0)++List.replicate 47 (i64 0)
def evV:List Value:=[i64 3,i64 0,.slice none 0 0,.bool false,i64 0,i64 0,i64 0,i64 0,.bool false,.bool false]
def siteV:List Value:=List.replicate 19 (i64 0)++[.slice none 0 0]++List.replicate 5 (.bool false)++List.replicate 5 (i64 0)++[.bool false]
def fixV:List Value:=[i64 4,i64 1,i64 0,i64 0,i64 0,i64 0,i64 2,i64 4,i64 0,i64 2,i64 4,i64 0]
theorem zpol_cv:cvL zPolL=some zPolV:=by kernel_rfl
theorem ev_cv:cvL evZ=some evV:=by kernel_rfl
theorem site_cv:cvL siteL=some siteV:=by kernel_rfl
theorem fix_cv:cvL fixL=some fixV:=by kernel_rfl
def rowO (st:SE.St) (i:Nat):Bool:=match lk st.sls i with
  | some (.row b 1)=>(match lk st.heap b with
    | some (.row 43 46 sid cs)=>SV.beqCs cs deadL&&Nat.beq sid i
    | _=>false)
  | _=>false
def o14r (o:SV×SE.St):Bool:=match o.1 with
  | .tup [.sl i,s,e]=>SV.beq s (.agg siteL)&&(SV.beq e (N 40)&&rowO o.2 i)
  | _=>false
noncomputable def run14:Bool:=runO o14r (run (Xw (kL [])).T 60 14 [.agg zPolL,.slc 5 0 1 1] s14)
theorem run14_r:run14=true:=by decide +kernel
noncomputable def run15:Bool:=runIs (.agg fixL) (run (Xw (kL [])).T 60 15 [] emptySt)
theorem run15_r:run15=true:=by decide +kernel
def E14 (g:Nat):Env:=fun id=>if id=5 then some (.blk g) else none
theorem zpol_any (hw:GlW w) {g:Nat} {ps es:Array Value} (hps:ps.toList=zPolV) (hes:es.toList=evV) (hg:w.heap[g]?=some (.cells es 48 (0,0))) (hMg:∀ cs,glT g≠some cs) :
    Calls Tryz.prog 14 #[.agg ps,.slice (some ⟨g,0,none⟩) 1 1] w fun e w' =>
      Below w.heap.size w w'∧∃ (n c:Nat) (cs ss:Array Value),e=.returned (.tuple #[.slice (some ⟨n,0,none⟩) 1 c,.agg ss,i64 40])∧ss.toList=siteV∧w'.heap[n]?=some (.cells cs 43 (0,0))∧cs.toList.take 46=deadVs∧1≤c:=by
  have hG:G (Xw (kL [])) (fun _=>False) w (E14 g) s14 w:=by
    refine ⟨Nat.le_refl _,rfl,rfl,rfl,fun n _ _=>rfl,fun id blk hl=>?_,fun id id' b b' n hl hl' _ _=>?_,fun id lo hi hl=>(by simp [s14,lk] at hl),fun id i hl=>(by simp [s14,lk] at hl),fun id hid=>?_,fun g' cs hg'=>?_,fun x hx=>(by cases hx)⟩
    · have hm:=lk_mem hl
      simp only [s14,List.mem_cons,List.not_mem_nil,or_false,Prod.mk.injEq] at hm
      obtain ⟨rfl,rfl⟩:=hm
      refine .inr ⟨g,rfl,(Array.getElem?_eq_some_iff.1 hg).1,.inl rfl,_,hg,?_⟩
      rw [hes]
      exact cvL_R ev_cv fun x _ v hv=>cvV_R hv
    · have hm:=lk_mem hl
      have hm':=lk_mem hl'
      simp only [s14,List.mem_cons,List.not_mem_nil,or_false,Prod.mk.injEq] at hm hm'
      rw [hm.1,hm'.1]
    · have hid:50≤id:=hid
      simp only [E14]
      rw [if_neg (by omega)]
    · obtain ⟨h1,vs,e,fr,h2,h3⟩:=hw g' cs hg'
      refine ⟨h1,fun id blk hl' hE=>?_,vs,e,fr,h2,clL_ok (glT_cl g' cs hg') h3⟩
      have hm':=lk_mem hl'
      simp only [s14,List.mem_cons,List.not_mem_nil,or_false,Prod.mk.injEq] at hm'
      rw [hm'.1] at hE
      simp only [E14,if_true,Option.some.injEq,EV.blk.injEq] at hE
      subst hE
      exact hMg cs hg'
  have e:=run14_r
  unfold run14 at e
  cases hrun:run (Xw (kL [])).T 60 14 [.agg zPolL,.slc 5 0 1 1] s14 with
  | none=>rw [hrun] at e; cases e
  | some out =>
    rw [hrun] at e
    refine (run_ok (X:=Xw (kL [])) tabw pkw rkw (kok (X:=Xw (kL [])) (ks:=[]) trivial rfl _ w) 60 hrun hG (RL_cons.2 ⟨?_,RL_cons.2 ⟨?_,by simp [RL]⟩⟩)).mono fun e' w' he=>?_
    · simp only [R]
      exact ⟨ps,rfl,by rw [hps]; exact cvL_R zpol_cv fun x _ v hv=>cvV_R hv⟩
    · simp only [R]
      exact ⟨g,rfl,rfl⟩
    · obtain ⟨⟨o1,o2⟩,ho,E',x,h1,rfl,h3,h4⟩:=he
      have hO:=allO_ok e _ ho
      simp only [o14r] at hO
      split at hO
      · rename_i i s ee
        simp only [Bool.and_eq_true] at hO
        obtain ⟨k1,k2,k3⟩:=hO
        have:=SV.beq_eq _ _ k1
        subst this
        have:=SV.beq_eq _ _ k2
        subst this
        simp only [R] at h3
        obtain ⟨cs,rfl,h3⟩:=h3
        obtain ⟨l⟩:=cs
        match l,RL_length h3 with
        | [v0,v1,v2],_ =>
          obtain ⟨q0,h3⟩:=RL_cons.1 h3
          obtain ⟨q1,h3⟩:=RL_cons.1 h3
          obtain ⟨q2,h3⟩:=RL_cons.1 h3
          simp only [R] at q0 q1
          obtain ⟨base,len,cap,e0,rfl⟩:=q0
          obtain ⟨ss,rfl,hss⟩:=q1
          have q2':=cvV_ok (x:=N 40) (v:=i64 40) (by kernel_rfl) q2
          subst q2'
          unfold rowO at k3
          split at k3
          · rename_i b hb
            split at k3
            · rename_i sid cs hcs
              simp only [Bool.and_eq_true] at k3
              have a1:=SV.beqCs_eq k3.1
              have a2:=nbeq k3.2
              subst a1
              subst a2
              obtain ⟨n,cap',f1,f2⟩:=h4.sls _ _ hb
              rw [e0] at f2
              cases f2
              rcases h4.heap _ _ hcs with ⟨hh,_⟩ | ⟨n',g1,g2,g3,vs,len',cap'',g4,g5,g6,g7,g8,g9⟩
              · cases hh
              · rw [f1] at g1
                cases g1
                rw [e0] at g5
                cases g5
                exact ⟨below_of h4,n,cap,vs,ss,rfl,cvL_ok site_cv hss,g4,cvL_ok dead_cv g9,g8⟩
            · cases k3
          · cases k3
      · cases hO
theorem fixed_any (hw:GlW w):Calls Tryz.prog 15 #[] w fun e w'=>∃ cs:Array Value,e=.returned (.agg cs)∧cs.toList=fixV∧Below w.heap.size w w':=by
  refine (pure_run (X:=Xw (kL [])) tabw pkw rkw (fun w=>kok (X:=Xw (kL [])) (ks:=[]) trivial rfl _ w) rfl (l:=fixL) (by decide +kernel) run15_r hw (by simp [RL])).mono fun e w' he=>?_
  obtain ⟨cs,rfl,h1,h2⟩:=he
  exact ⟨cs,rfl,cvL_ok fix_cv h1,h2⟩
end SE
end
section
namespace SE
open Go.RowKit Mc
attribute [local go_sem] Oper.semAt_some
set_option maxHeartbeats 4000000
section
variable {P:Program} {ops:Array Oper} {o:Oper} {a:Act} {w:World} {Q:Exit→Act→World→Prop} {K:Act→World→Prop} {i:Nat}
theorem op_valg {v:Value} {w':World} (hi:ops[i]?=some o) (hg:Region.wanted o (yielded ops a.tmps)=true) (hrun:(execOp a.eval o).run P w=.ok (.value v) w') (h:K (a.put o.dst v) w'):wpOp P ops Q i K a w:=by
  unfold Go.wpOp
  simp only [hi]
  rw [if_pos hg]
  refine .inl ?_
  unfold Oper.wp
  rw [hrun]
  exact h
theorem op_callg {f:FuncId} {args:Array Value} (hi:ops[i]?=some o) (hg:Region.wanted o (yielded ops a.tmps)=true) (hrun:(execOp a.eval o).run P w=.ok (.enter f args) w) (h:Calls P f args w fun e w'=>∃ v,e=.returned v∧K (a.put o.dst v) w'):wpOp P ops Q i K a w:=by
  unfold Go.wpOp
  simp only [hi]
  rw [if_pos hg]
  refine .inl ?_
  unfold Oper.wp
  rw [hrun]
  simp only [Oper.upon]
  refine Calls.mono h fun e w'' he=>?_
  obtain ⟨v,rfl,hk⟩:=he
  exact hk
end
theorem act_un:∃ d,Tryz.prog.underlying 38=some d∧d.isRow=true:=by
  have h:(Tryz.prog.underlying 38).map (·.isRow)=some true:=by kernel_rfl
  cases hd:Tryz.prog.underlying 38 with
  | none=>rw [hd] at h; cases h
  | some d=>rw [hd] at h; exact ⟨d,rfl,by simpa using h⟩
theorem act_info:(Tryz.prog.info? 38).map (·.size)=some 12:=by kernel_rfl
theorem site_info:(Tryz.prog.info? 55).map (·.size)=some 31:=by kernel_rfl
theorem name15:Tryz.f15.name ≠ "runtime.NumGoroutine" := by
  have h:(Tryz.f15.name == "runtime.NumGoroutine")=false:=by kernel_rfl
  intro e
  rw [e] at h
  cases h
theorem body15:Tryz.f15.body≠none:=by
  have h:Tryz.f15.body.isNone=false:=by kernel_rfl
  intro e
  rw [e] at h
  cases h
theorem shown_any {w:World} (hw:GlW w):Calls Tryz.prog 7 #[] w fun e w'=>e=.returned (.bool true)∧Below w.heap.size w w':=by
  refine (callsIn_wide (n:=3)).1 (callsIn_of_wp Tryz.func7 rfl trivial ?_ rfl)
  simp only [Tryz.ntmps7,List.size_toArray,List.length_cons,List.length_nil,Nat.reduceAdd,Nat.reduceSub,Array.replicate_succ,Array.replicate_zero,List.push_toArray,List.append_toArray,List.nil_append,List.cons_append]
  gi_wp2
  rename_i K1 hK1 K2 hK2
  generalize hwA:World.alloc w _=wA
  have hbA:Below w.heap.size w wA:=by rw [← hwA]; exact (Below.refl _ _).alloc (Nat.le_refl _) _
  have hboxA:∃ es:Array Value,wA.heap[w.heap.size]?=some (.cells es 48 (0,0))∧es.toList=evV:=⟨_,by rw [← hwA]; exact heap_alloc_new w _,rfl⟩
  obtain ⟨es,hbox,hes⟩:=hboxA
  refine ⟨trivial,?_⟩
  refine (callsIn_wide.2 (zpol_any (hw.belowW hbA) (by rfl) hes hbox fun cs h=>by have:=(hw _ _ h).1; omega)).mono ?_
  rintro e w1 ⟨hb1,n,c,cs,ss,rfl,hss,hn,hcs,hc1⟩
  refine hK2 _ _ ?_
  obtain rfl:ss=siteV.toArray:=by rw [← hss]
  have hone:∀ u∈siteV.toArray.toList,u.oneCell'=true:=by
    intro u hu
    have hall:siteV.all (fun u=>u.oneCell')=true:=by decide
    exact List.all_eq_true.1 hall u hu
  gi_wp2_with (first
    | (refine in_store (b:=w1.heap.size) (off:=0) (xs:=siteV.toArray) (v:=.agg siteV.toArray) rfl rfl rfl rfl rfl hone site_info (heap_alloc_new w1 _) (by decide) fun w2 hw2=>?_; simp only [Act.put,List.setIfInBounds_toArray,List.set_cons_succ,List.set_cons_zero])
    | fail)
  rename_i K3 hK3
  have hmx:Tryz.prog.follows .mixedOrders=true:=by kernel_rfl
  obtain ⟨d38,hd38,hr38⟩:=act_un
  have zA:=hbA.size
  have z1:=hb1.size
  have z2:w2.heap.size=w1.heap.size+1:=by rw [hw2.size,alloc_size]
  have hnl:n<w1.heap.size:=(Array.getElem?_eq_some_iff.1 hn).1
  have k12:∀ m,m<w1.heap.size→w2.heap[m]?=w1.heap[m]?:=fun m hm=>(hw2.same m (by omega)).trans (alloc_same w1 _ m hm)
  obtain ⟨wD,hwD0⟩:∃ wD,wD=w2.drew:=⟨_,rfl⟩
  have hD:wD.heap=w2.heap:=by rw [hwD0]; rfl
  have b12:Below w1.heap.size w1 w2:=⟨hw2.os,hw2.tape,hw2.output,by omega,k12⟩
  have b2D:Below w2.heap.size w2 wD:=by rw [hwD0]; exact ⟨rfl,rfl,rfl,Nat.le_refl _,fun n _=>rfl⟩
  have bD:Below w.heap.size w wD:=⟨b2D.os.trans (b12.os.trans (hb1.os.trans hbA.os)),b2D.tape.trans (b12.tape.trans (hb1.tape.trans hbA.tape)),b2D.output.trans (b12.output.trans (hb1.output.trans hbA.output)),by rw [hD]; omega,fun m hm=>by rw [hD,k12 m (by omega),hb1.block m (by omega)]; exact hbA.block m hm⟩
  have hwD:GlW wD:=hw.belowW bD
  have cD:wD.heap[n]?=some (.cells cs 43 (0,0)):=by rw [hD,k12 n hnl]; exact hn
  have hnD:n<wD.heap.size:=by rw [hD]; omega
  have hsz:46≤cs.size:=by
    have:=congrArg List.length hcs
    rw [List.length_take,Array.length_toList] at this
    have e:deadVs.length=46:=rfl
    omega
  have hfix:((cs.toList.drop 0).take 12).toArray=fixV.toArray:=by
    have:cs.toList.take 12=(cs.toList.take 46).take 12:=by rw [List.take_take]; rfl
    rw [List.drop_zero,this,hcs]
    rfl
  clear hw2 hwA hbox hes hone hss
  refine wpIn_wide.2 (wp_region_any hmx ?_)
  have hwD':({ w2 with drawn:=w2.drawn+1 }:World)=wD:=by rw [hwD0]; rfl
  rw [hwD']
  have fin:∀ w3:World,Below wD.heap.size wD w3→Below w.heap.size w w3:=fun w3 hb=>⟨hb.os.trans bD.os,hb.tape.trans bD.tape,hb.output.trans bD.output,Nat.le_trans bD.size hb.size,fun m hm=>(hb.block m (Nat.lt_of_lt_of_le hm bD.size)).trans (bD.block m hm)⟩
  show wpAny _ _ _ _ 16 #[false,false,false,false,false,false,false,false,false,false,false,false,false,false,false,false] _ _
  refine wpAny_one (i:=0) (by kernel_rfl) ?_
  refine op_valg (i:=0) (v:=.slice (some ⟨n,0,none⟩) 1 c) (w':=wD) rfl (by kernel_rfl) (by kernel_rfl) ?_
  simp only [List.getElem_toArray,List.getElem_cons_zero,List.getElem_cons_succ,Act.put,List.setIfInBounds_toArray,List.set_cons_succ,List.set_cons_zero]
  refine wpAny_one (i:=1) (by kernel_rfl) ?_
  refine op_valg (i:=1) (v:=i64 1) (w':=wD) rfl (by kernel_rfl) (by kernel_rfl) ?_
  simp only [List.getElem_toArray,List.getElem_cons_zero,List.getElem_cons_succ,Act.put,List.setIfInBounds_toArray,List.set_cons_succ,List.set_cons_zero]
  refine wpAny_one (i:=2) (by kernel_rfl) ?_
  refine op_valg (i:=2) (v:=.bool true) (w':=wD) rfl (by kernel_rfl) (by kernel_rfl) ?_
  simp only [List.getElem_toArray,List.getElem_cons_zero,List.getElem_cons_succ,Act.put,List.setIfInBounds_toArray,List.set_cons_succ,List.set_cons_zero]
  refine wpAny_one (i:=3) (by kernel_rfl) ?_
  refine op_valg (i:=3) (v:=.bool true) (w':=wD) rfl (by kernel_rfl) (by kernel_rfl) ?_
  simp only [List.getElem_toArray,List.getElem_cons_zero,List.getElem_cons_succ,Act.put,List.setIfInBounds_toArray,List.set_cons_succ,List.set_cons_zero]
  refine wpAny_two (i:=4) (j:=8) (by kernel_rfl) ?_ ?_
  · skip
    refine op_valg (i:=4) (v:=.slice (some ⟨n,0,none⟩) 1 c) (w':=wD) rfl (by kernel_rfl) (by kernel_rfl) ?_
    simp only [List.getElem_toArray,List.getElem_cons_zero,List.getElem_cons_succ,Act.put,List.setIfInBounds_toArray,List.set_cons_succ,List.set_cons_zero]
    refine wpAny_two (i:=5) (j:=8) (by kernel_rfl) ?_ ?_
    · skip
      refine op_valg (i:=5) (v:=.pointer (some ⟨n,0,none⟩)) (w':=wD) rfl (by kernel_rfl) (by kernel_rfl) ?_
      simp only [List.getElem_toArray,List.getElem_cons_zero,List.getElem_cons_succ,Act.put,List.setIfInBounds_toArray,List.set_cons_succ,List.set_cons_zero]
      refine wpAny_two (i:=6) (j:=8) (by kernel_rfl) ?_ ?_
      · skip
        refine op_valg (i:=6) (v:=.pointer (some ⟨n,0,none⟩)) (w':=wD) rfl (by kernel_rfl) (by kernel_rfl) ?_
        simp only [List.getElem_toArray,List.getElem_cons_zero,List.getElem_cons_succ,Act.put,List.setIfInBounds_toArray,List.set_cons_succ,List.set_cons_zero]
        refine wpAny_two (i:=7) (j:=8) (by kernel_rfl) ?_ ?_
        · skip
          refine op_valg (i:=7) rfl (by kernel_rfl) (run_rowload (b:=n) (off:=0) (n:=12) (d:=d38) rfl rfl cD hd38 hr38 act_info (by omega)) ?_
          rw [hfix]
          simp only [List.getElem_toArray,List.getElem_cons_zero,List.getElem_cons_succ,Act.put,List.setIfInBounds_toArray,List.set_cons_succ,List.set_cons_zero]
          refine wpAny_one (i:=8) (by kernel_rfl) ?_
          refine op_callg (i:=8) (f:=15) (args:=#[]) rfl (by kernel_rfl) (run_callf rfl Tryz.func15 name15 body15 (by simp)) ((fixed_any hwD).mono ?_)
          rintro e w3 ⟨fs,rfl,hfs,hb3⟩
          obtain rfl:fs=fixV.toArray:=by rw [← hfs]
          refine ⟨_,rfl,?_⟩
          simp only [List.getElem_toArray,List.getElem_cons_zero,List.getElem_cons_succ,Act.put,List.setIfInBounds_toArray,List.set_cons_succ,List.set_cons_zero]
          refine wpAny_one (i:=9) (by kernel_rfl) ?_
          refine op_valg (i:=9) (v:=.bool true) (w':=w3) rfl (by kernel_rfl) (by kernel_rfl) ?_
          simp only [List.getElem_toArray,List.getElem_cons_zero,List.getElem_cons_succ,Act.put,List.setIfInBounds_toArray,List.set_cons_succ,List.set_cons_zero]
          refine wpAny_one (i:=10) (by kernel_rfl) ?_
          refine op_valg (i:=10) (v:=.bool true) (w':=w3) rfl (by kernel_rfl) (by kernel_rfl) ?_
          simp only [List.getElem_toArray,List.getElem_cons_zero,List.getElem_cons_succ,Act.put,List.setIfInBounds_toArray,List.set_cons_succ,List.set_cons_zero]
          refine wpAny_one (i:=11) (by kernel_rfl) ?_
          refine op_valg (i:=11) (v:=.bool true) (w':=w3) rfl (by kernel_rfl) (by kernel_rfl) ?_
          simp only [List.getElem_toArray,List.getElem_cons_zero,List.getElem_cons_succ,Act.put,List.setIfInBounds_toArray,List.set_cons_succ,List.set_cons_zero]
          refine wpAny_one (i:=12) (by kernel_rfl) ?_
          refine op_valg (i:=12) (v:=i64 40) (w':=w3) rfl (by kernel_rfl) (by kernel_rfl) ?_
          simp only [List.getElem_toArray,List.getElem_cons_zero,List.getElem_cons_succ,Act.put,List.setIfInBounds_toArray,List.set_cons_succ,List.set_cons_zero]
          refine wpAny_one (i:=13) (by kernel_rfl) ?_
          refine op_valg (i:=13) (v:=.bool true) (w':=w3) rfl (by kernel_rfl) (by kernel_rfl) ?_
          simp only [List.getElem_toArray,List.getElem_cons_zero,List.getElem_cons_succ,Act.put,List.setIfInBounds_toArray,List.set_cons_succ,List.set_cons_zero]
          refine wpAny_one (i:=14) (by kernel_rfl) ?_
          refine op_valg (i:=14) (v:=.bool true) (w':=w3) rfl (by kernel_rfl) (by kernel_rfl) ?_
          simp only [List.getElem_toArray,List.getElem_cons_zero,List.getElem_cons_succ,Act.put,List.setIfInBounds_toArray,List.set_cons_succ,List.set_cons_zero]
          refine wpAny_one (i:=15) (by kernel_rfl) ?_
          refine op_valg (i:=15) (v:=.bool true) (w':=w3) rfl (by kernel_rfl) (by kernel_rfl) ?_
          simp only [List.getElem_toArray,List.getElem_cons_zero,List.getElem_cons_succ,Act.put,List.setIfInBounds_toArray,List.set_cons_succ,List.set_cons_zero]
          refine wpAny_end (by kernel_rfl) ?_
          refine hK3 _ _ ?_
          gi_wp2
          go_ret
          exact ⟨rfl,fin _ hb3⟩
        · skip
          refine op_callg (i:=8) (f:=15) (args:=#[]) rfl (by kernel_rfl) (run_callf rfl Tryz.func15 name15 body15 (by simp)) ((fixed_any hwD).mono ?_)
          rintro e w3 ⟨fs,rfl,hfs,hb3⟩
          obtain rfl:fs=fixV.toArray:=by rw [← hfs]
          refine ⟨_,rfl,?_⟩
          simp only [List.getElem_toArray,List.getElem_cons_zero,List.getElem_cons_succ,Act.put,List.setIfInBounds_toArray,List.set_cons_succ,List.set_cons_zero]
          refine wpAny_one (i:=7) (by kernel_rfl) ?_
          refine op_valg (i:=7) rfl (by kernel_rfl) (run_rowload (b:=n) (off:=0) (n:=12) (d:=d38) rfl rfl ((hb3.block _ hnD).trans cD) hd38 hr38 act_info (by omega)) ?_
          rw [hfix]
          simp only [List.getElem_toArray,List.getElem_cons_zero,List.getElem_cons_succ,Act.put,List.setIfInBounds_toArray,List.set_cons_succ,List.set_cons_zero]
          refine wpAny_one (i:=9) (by kernel_rfl) ?_
          refine op_valg (i:=9) (v:=.bool true) (w':=w3) rfl (by kernel_rfl) (by kernel_rfl) ?_
          simp only [List.getElem_toArray,List.getElem_cons_zero,List.getElem_cons_succ,Act.put,List.setIfInBounds_toArray,List.set_cons_succ,List.set_cons_zero]
          refine wpAny_one (i:=10) (by kernel_rfl) ?_
          refine op_valg (i:=10) (v:=.bool true) (w':=w3) rfl (by kernel_rfl) (by kernel_rfl) ?_
          simp only [List.getElem_toArray,List.getElem_cons_zero,List.getElem_cons_succ,Act.put,List.setIfInBounds_toArray,List.set_cons_succ,List.set_cons_zero]
          refine wpAny_one (i:=11) (by kernel_rfl) ?_
          refine op_valg (i:=11) (v:=.bool true) (w':=w3) rfl (by kernel_rfl) (by kernel_rfl) ?_
          simp only [List.getElem_toArray,List.getElem_cons_zero,List.getElem_cons_succ,Act.put,List.setIfInBounds_toArray,List.set_cons_succ,List.set_cons_zero]
          refine wpAny_one (i:=12) (by kernel_rfl) ?_
          refine op_valg (i:=12) (v:=i64 40) (w':=w3) rfl (by kernel_rfl) (by kernel_rfl) ?_
          simp only [List.getElem_toArray,List.getElem_cons_zero,List.getElem_cons_succ,Act.put,List.setIfInBounds_toArray,List.set_cons_succ,List.set_cons_zero]
          refine wpAny_one (i:=13) (by kernel_rfl) ?_
          refine op_valg (i:=13) (v:=.bool true) (w':=w3) rfl (by kernel_rfl) (by kernel_rfl) ?_
          simp only [List.getElem_toArray,List.getElem_cons_zero,List.getElem_cons_succ,Act.put,List.setIfInBounds_toArray,List.set_cons_succ,List.set_cons_zero]
          refine wpAny_one (i:=14) (by kernel_rfl) ?_
          refine op_valg (i:=14) (v:=.bool true) (w':=w3) rfl (by kernel_rfl) (by kernel_rfl) ?_
          simp only [List.getElem_toArray,List.getElem_cons_zero,List.getElem_cons_succ,Act.put,List.setIfInBounds_toArray,List.set_cons_succ,List.set_cons_zero]
          refine wpAny_one (i:=15) (by kernel_rfl) ?_
          refine op_valg (i:=15) (v:=.bool true) (w':=w3) rfl (by kernel_rfl) (by kernel_rfl) ?_
          simp only [List.getElem_toArray,List.getElem_cons_zero,List.getElem_cons_succ,Act.put,List.setIfInBounds_toArray,List.set_cons_succ,List.set_cons_zero]
          refine wpAny_end (by kernel_rfl) ?_
          refine hK3 _ _ ?_
          gi_wp2
          go_ret
          exact ⟨rfl,fin _ hb3⟩
      · skip
        refine op_callg (i:=8) (f:=15) (args:=#[]) rfl (by kernel_rfl) (run_callf rfl Tryz.func15 name15 body15 (by simp)) ((fixed_any hwD).mono ?_)
        rintro e w3 ⟨fs,rfl,hfs,hb3⟩
        obtain rfl:fs=fixV.toArray:=by rw [← hfs]
        refine ⟨_,rfl,?_⟩
        simp only [List.getElem_toArray,List.getElem_cons_zero,List.getElem_cons_succ,Act.put,List.setIfInBounds_toArray,List.set_cons_succ,List.set_cons_zero]
        refine wpAny_one (i:=6) (by kernel_rfl) ?_
        refine op_valg (i:=6) (v:=.pointer (some ⟨n,0,none⟩)) (w':=w3) rfl (by kernel_rfl) (by kernel_rfl) ?_
        simp only [List.getElem_toArray,List.getElem_cons_zero,List.getElem_cons_succ,Act.put,List.setIfInBounds_toArray,List.set_cons_succ,List.set_cons_zero]
        refine wpAny_one (i:=7) (by kernel_rfl) ?_
        refine op_valg (i:=7) rfl (by kernel_rfl) (run_rowload (b:=n) (off:=0) (n:=12) (d:=d38) rfl rfl ((hb3.block _ hnD).trans cD) hd38 hr38 act_info (by omega)) ?_
        rw [hfix]
        simp only [List.getElem_toArray,List.getElem_cons_zero,List.getElem_cons_succ,Act.put,List.setIfInBounds_toArray,List.set_cons_succ,List.set_cons_zero]
        refine wpAny_one (i:=9) (by kernel_rfl) ?_
        refine op_valg (i:=9) (v:=.bool true) (w':=w3) rfl (by kernel_rfl) (by kernel_rfl) ?_
        simp only [List.getElem_toArray,List.getElem_cons_zero,List.getElem_cons_succ,Act.put,List.setIfInBounds_toArray,List.set_cons_succ,List.set_cons_zero]
        refine wpAny_one (i:=10) (by kernel_rfl) ?_
        refine op_valg (i:=10) (v:=.bool true) (w':=w3) rfl (by kernel_rfl) (by kernel_rfl) ?_
        simp only [List.getElem_toArray,List.getElem_cons_zero,List.getElem_cons_succ,Act.put,List.setIfInBounds_toArray,List.set_cons_succ,List.set_cons_zero]
        refine wpAny_one (i:=11) (by kernel_rfl) ?_
        refine op_valg (i:=11) (v:=.bool true) (w':=w3) rfl (by kernel_rfl) (by kernel_rfl) ?_
        simp only [List.getElem_toArray,List.getElem_cons_zero,List.getElem_cons_succ,Act.put,List.setIfInBounds_toArray,List.set_cons_succ,List.set_cons_zero]
        refine wpAny_one (i:=12) (by kernel_rfl) ?_
        refine op_valg (i:=12) (v:=i64 40) (w':=w3) rfl (by kernel_rfl) (by kernel_rfl) ?_
        simp only [List.getElem_toArray,List.getElem_cons_zero,List.getElem_cons_succ,Act.put,List.setIfInBounds_toArray,List.set_cons_succ,List.set_cons_zero]
        refine wpAny_one (i:=13) (by kernel_rfl) ?_
        refine op_valg (i:=13) (v:=.bool true) (w':=w3) rfl (by kernel_rfl) (by kernel_rfl) ?_
        simp only [List.getElem_toArray,List.getElem_cons_zero,List.getElem_cons_succ,Act.put,List.setIfInBounds_toArray,List.set_cons_succ,List.set_cons_zero]
        refine wpAny_one (i:=14) (by kernel_rfl) ?_
        refine op_valg (i:=14) (v:=.bool true) (w':=w3) rfl (by kernel_rfl) (by kernel_rfl) ?_
        simp only [List.getElem_toArray,List.getElem_cons_zero,List.getElem_cons_succ,Act.put,List.setIfInBounds_toArray,List.set_cons_succ,List.set_cons_zero]
        refine wpAny_one (i:=15) (by kernel_rfl) ?_
        refine op_valg (i:=15) (v:=.bool true) (w':=w3) rfl (by kernel_rfl) (by kernel_rfl) ?_
        simp only [List.getElem_toArray,List.getElem_cons_zero,List.getElem_cons_succ,Act.put,List.setIfInBounds_toArray,List.set_cons_succ,List.set_cons_zero]
        refine wpAny_end (by kernel_rfl) ?_
        refine hK3 _ _ ?_
        gi_wp2
        go_ret
        exact ⟨rfl,fin _ hb3⟩
    · skip
      refine op_callg (i:=8) (f:=15) (args:=#[]) rfl (by kernel_rfl) (run_callf rfl Tryz.func15 name15 body15 (by simp)) ((fixed_any hwD).mono ?_)
      rintro e w3 ⟨fs,rfl,hfs,hb3⟩
      obtain rfl:fs=fixV.toArray:=by rw [← hfs]
      refine ⟨_,rfl,?_⟩
      simp only [List.getElem_toArray,List.getElem_cons_zero,List.getElem_cons_succ,Act.put,List.setIfInBounds_toArray,List.set_cons_succ,List.set_cons_zero]
      refine wpAny_one (i:=5) (by kernel_rfl) ?_
      refine op_valg (i:=5) (v:=.pointer (some ⟨n,0,none⟩)) (w':=w3) rfl (by kernel_rfl) (by kernel_rfl) ?_
      simp only [List.getElem_toArray,List.getElem_cons_zero,List.getElem_cons_succ,Act.put,List.setIfInBounds_toArray,List.set_cons_succ,List.set_cons_zero]
      refine wpAny_one (i:=6) (by kernel_rfl) ?_
      refine op_valg (i:=6) (v:=.pointer (some ⟨n,0,none⟩)) (w':=w3) rfl (by kernel_rfl) (by kernel_rfl) ?_
      simp only [List.getElem_toArray,List.getElem_cons_zero,List.getElem_cons_succ,Act.put,List.setIfInBounds_toArray,List.set_cons_succ,List.set_cons_zero]
      refine wpAny_one (i:=7) (by kernel_rfl) ?_
      refine op_valg (i:=7) rfl (by kernel_rfl) (run_rowload (b:=n) (off:=0) (n:=12) (d:=d38) rfl rfl ((hb3.block _ hnD).trans cD) hd38 hr38 act_info (by omega)) ?_
      rw [hfix]
      simp only [List.getElem_toArray,List.getElem_cons_zero,List.getElem_cons_succ,Act.put,List.setIfInBounds_toArray,List.set_cons_succ,List.set_cons_zero]
      refine wpAny_one (i:=9) (by kernel_rfl) ?_
      refine op_valg (i:=9) (v:=.bool true) (w':=w3) rfl (by kernel_rfl) (by kernel_rfl) ?_
      simp only [List.getElem_toArray,List.getElem_cons_zero,List.getElem_cons_succ,Act.put,List.setIfInBounds_toArray,List.set_cons_succ,List.set_cons_zero]
      refine wpAny_one (i:=10) (by kernel_rfl) ?_
      refine op_valg (i:=10) (v:=.bool true) (w':=w3) rfl (by kernel_rfl) (by kernel_rfl) ?_
      simp only [List.getElem_toArray,List.getElem_cons_zero,List.getElem_cons_succ,Act.put,List.setIfInBounds_toArray,List.set_cons_succ,List.set_cons_zero]
      refine wpAny_one (i:=11) (by kernel_rfl) ?_
      refine op_valg (i:=11) (v:=.bool true) (w':=w3) rfl (by kernel_rfl) (by kernel_rfl) ?_
      simp only [List.getElem_toArray,List.getElem_cons_zero,List.getElem_cons_succ,Act.put,List.setIfInBounds_toArray,List.set_cons_succ,List.set_cons_zero]
      refine wpAny_one (i:=12) (by kernel_rfl) ?_
      refine op_valg (i:=12) (v:=i64 40) (w':=w3) rfl (by kernel_rfl) (by kernel_rfl) ?_
      simp only [List.getElem_toArray,List.getElem_cons_zero,List.getElem_cons_succ,Act.put,List.setIfInBounds_toArray,List.set_cons_succ,List.set_cons_zero]
      refine wpAny_one (i:=13) (by kernel_rfl) ?_
      refine op_valg (i:=13) (v:=.bool true) (w':=w3) rfl (by kernel_rfl) (by kernel_rfl) ?_
      simp only [List.getElem_toArray,List.getElem_cons_zero,List.getElem_cons_succ,Act.put,List.setIfInBounds_toArray,List.set_cons_succ,List.set_cons_zero]
      refine wpAny_one (i:=14) (by kernel_rfl) ?_
      refine op_valg (i:=14) (v:=.bool true) (w':=w3) rfl (by kernel_rfl) (by kernel_rfl) ?_
      simp only [List.getElem_toArray,List.getElem_cons_zero,List.getElem_cons_succ,Act.put,List.setIfInBounds_toArray,List.set_cons_succ,List.set_cons_zero]
      refine wpAny_one (i:=15) (by kernel_rfl) ?_
      refine op_valg (i:=15) (v:=.bool true) (w':=w3) rfl (by kernel_rfl) (by kernel_rfl) ?_
      simp only [List.getElem_toArray,List.getElem_cons_zero,List.getElem_cons_succ,Act.put,List.setIfInBounds_toArray,List.set_cons_succ,List.set_cons_zero]
      refine wpAny_end (by kernel_rfl) ?_
      refine hK3 _ _ ?_
      gi_wp2
      go_ret
      exact ⟨rfl,fin _ hb3⟩
  · skip
    refine op_callg (i:=8) (f:=15) (args:=#[]) rfl (by kernel_rfl) (run_callf rfl Tryz.func15 name15 body15 (by simp)) ((fixed_any hwD).mono ?_)
    rintro e w3 ⟨fs,rfl,hfs,hb3⟩
    obtain rfl:fs=fixV.toArray:=by rw [← hfs]
    refine ⟨_,rfl,?_⟩
    simp only [List.getElem_toArray,List.getElem_cons_zero,List.getElem_cons_succ,Act.put,List.setIfInBounds_toArray,List.set_cons_succ,List.set_cons_zero]
    refine wpAny_one (i:=4) (by kernel_rfl) ?_
    refine op_valg (i:=4) (v:=.slice (some ⟨n,0,none⟩) 1 c) (w':=w3) rfl (by kernel_rfl) (by kernel_rfl) ?_
    simp only [List.getElem_toArray,List.getElem_cons_zero,List.getElem_cons_succ,Act.put,List.setIfInBounds_toArray,List.set_cons_succ,List.set_cons_zero]
    refine wpAny_one (i:=5) (by kernel_rfl) ?_
    refine op_valg (i:=5) (v:=.pointer (some ⟨n,0,none⟩)) (w':=w3) rfl (by kernel_rfl) (by kernel_rfl) ?_
    simp only [List.getElem_toArray,List.getElem_cons_zero,List.getElem_cons_succ,Act.put,List.setIfInBounds_toArray,List.set_cons_succ,List.set_cons_zero]
    refine wpAny_one (i:=6) (by kernel_rfl) ?_
    refine op_valg (i:=6) (v:=.pointer (some ⟨n,0,none⟩)) (w':=w3) rfl (by kernel_rfl) (by kernel_rfl) ?_
    simp only [List.getElem_toArray,List.getElem_cons_zero,List.getElem_cons_succ,Act.put,List.setIfInBounds_toArray,List.set_cons_succ,List.set_cons_zero]
    refine wpAny_one (i:=7) (by kernel_rfl) ?_
    refine op_valg (i:=7) rfl (by kernel_rfl) (run_rowload (b:=n) (off:=0) (n:=12) (d:=d38) rfl rfl ((hb3.block _ hnD).trans cD) hd38 hr38 act_info (by omega)) ?_
    rw [hfix]
    simp only [List.getElem_toArray,List.getElem_cons_zero,List.getElem_cons_succ,Act.put,List.setIfInBounds_toArray,List.set_cons_succ,List.set_cons_zero]
    refine wpAny_one (i:=9) (by kernel_rfl) ?_
    refine op_valg (i:=9) (v:=.bool true) (w':=w3) rfl (by kernel_rfl) (by kernel_rfl) ?_
    simp only [List.getElem_toArray,List.getElem_cons_zero,List.getElem_cons_succ,Act.put,List.setIfInBounds_toArray,List.set_cons_succ,List.set_cons_zero]
    refine wpAny_one (i:=10) (by kernel_rfl) ?_
    refine op_valg (i:=10) (v:=.bool true) (w':=w3) rfl (by kernel_rfl) (by kernel_rfl) ?_
    simp only [List.getElem_toArray,List.getElem_cons_zero,List.getElem_cons_succ,Act.put,List.setIfInBounds_toArray,List.set_cons_succ,List.set_cons_zero]
    refine wpAny_one (i:=11) (by kernel_rfl) ?_
    refine op_valg (i:=11) (v:=.bool true) (w':=w3) rfl (by kernel_rfl) (by kernel_rfl) ?_
    simp only [List.getElem_toArray,List.getElem_cons_zero,List.getElem_cons_succ,Act.put,List.setIfInBounds_toArray,List.set_cons_succ,List.set_cons_zero]
    refine wpAny_one (i:=12) (by kernel_rfl) ?_
    refine op_valg (i:=12) (v:=i64 40) (w':=w3) rfl (by kernel_rfl) (by kernel_rfl) ?_
    simp only [List.getElem_toArray,List.getElem_cons_zero,List.getElem_cons_succ,Act.put,List.setIfInBounds_toArray,List.set_cons_succ,List.set_cons_zero]
    refine wpAny_one (i:=13) (by kernel_rfl) ?_
    refine op_valg (i:=13) (v:=.bool true) (w':=w3) rfl (by kernel_rfl) (by kernel_rfl) ?_
    simp only [List.getElem_toArray,List.getElem_cons_zero,List.getElem_cons_succ,Act.put,List.setIfInBounds_toArray,List.set_cons_succ,List.set_cons_zero]
    refine wpAny_one (i:=14) (by kernel_rfl) ?_
    refine op_valg (i:=14) (v:=.bool true) (w':=w3) rfl (by kernel_rfl) (by kernel_rfl) ?_
    simp only [List.getElem_toArray,List.getElem_cons_zero,List.getElem_cons_succ,Act.put,List.setIfInBounds_toArray,List.set_cons_succ,List.set_cons_zero]
    refine wpAny_one (i:=15) (by kernel_rfl) ?_
    refine op_valg (i:=15) (v:=.bool true) (w':=w3) rfl (by kernel_rfl) (by kernel_rfl) ?_
    simp only [List.getElem_toArray,List.getElem_cons_zero,List.getElem_cons_succ,Act.put,List.setIfInBounds_toArray,List.set_cons_succ,List.set_cons_zero]
    refine wpAny_end (by kernel_rfl) ?_
    refine hK3 _ _ ?_
    gi_wp2
    go_ret
    exact ⟨rfl,fin _ hb3⟩
end SE
end
section
namespace SE
open Go.RowKit Mc In
theorem Below.to {w w1 w2:World} (h:Below w.heap.size w w1) (k:Below w1.heap.size w1 w2):Below w.heap.size w w2 :=
  ⟨k.os.trans h.os,k.tape.trans h.tape,k.output.trans h.output,Nat.le_trans h.size k.size,fun n hn=>(k.block n (Nat.lt_of_lt_of_le hn h.size)).trans (h.block n hn)⟩
theorem set_pol {w2 w3:World} {cs pc:Array Value} (hW:Wr (w2.alloc (.cells cs 28)) w3 w2.heap.size (spl cs.toList 0 pc.toList).toArray 28) (hcs:cs.size=56) (hpl:pc.size=56):Below w2.heap.size w2 w3∧w3.heap[w2.heap.size]?=some (.cells pc 28 (0,0))∧w3.heap.size=w2.heap.size+1:=by
  have hz:w3.heap.size=w2.heap.size+1:=by rw [hW.size,alloc_size]
  refine ⟨⟨hW.os,hW.tape,hW.output,by omega,fun n hn=>(hW.same n (by omega)).trans (alloc_same w2 _ n hn)⟩,?_,hz⟩
  have:=hW.cell
  rwa [sh_spl hcs hpl] at this
theorem pol_cell {w:World} {pc:Array Value} {w0:World} (h:PolR w0 pc.toList) {r i:Nat} (hr:w.heap[r]?=some (.cells pc 28 (0,0))) (hi:i<56) (hk:isK i=true):w.cell? ⟨r,i,none⟩=some (.int .i64 (pI pc i)):=by
  rw [SE.cell_at hr]
  exact h.fit.ok.2 i hi (isK_ok hk)
theorem EvsIn.below {w w':World} {b:Option Addr} {n c:Nat} (h:EvsIn w b n c) (hb:Below w.heap.size w w'):EvsIn w' b n c:=by
  obtain ⟨h1,h2,es,h3,h4,h5⟩:=h
  refine ⟨h1,h2,es,h3,fun e he=>?_,(h5.below hb).more hb.size⟩
  have q:=h4 e he
  obtain ⟨x,hx⟩:=q.rd
  exact ⟨q.k,q.s,q.x1,q.x2,q.x3,q.x4,q.le,q.mx,x,(hx.below hb).more hb.size⟩
end SE
end
section
namespace SE
open Go.RowKit Mc In
attribute [local go_sem] Oper.semAt_some
set_option maxHeartbeats 4000000
theorem in_max3 {F:Fence} {nF:Nat} {P:Program} {ops:Array Oper} {rest:List Oper} {o:Oper} {a:Act} {w:World} {Q:Exit→Act→World→Prop} {x y z:Operand} {p q r:Int} (hgd:o.guard=none) (ho:o.op=.call { callee:=.builtin .max,args:=#[x,y,z],argTypes:=#[3,3,3] })
    (hx:a.eval x=.int .i64 p) (hy:a.eval y=.int .i64 q) (hz:a.eval z=.int .i64 r) (h:∀ m,p≤m→q≤m→r≤m→(m=p∨m=q∨m=r)→wpListIn F nF P ops Q rest (a.put o.dst (.int .i64 m)) w):wpListIn F nF P ops Q (o::rest) a w:=by
  refine in_val hgd (by rw [ho]; intro c hc; cases hc) (by simp [Oper.about,ho,resolve,Target.leads,Sem.run_pure]) (v:=.int .i64 (if (if p<q then q else p)<r then r else (if p<q then q else p))) (w':=w) ?_ (h _ ?_ ?_ ?_ ?_)
  · simp only [execOp,ho,resolve,invoke,builtin,Sem.run_bind,Sem.run_pure,Result.andThen_ok,List.map_toArray,List.map_cons,List.map_nil,hx,hy,hz]
    simp [go_sem]
  · split <;> split at*<;> omega
  · split <;> split at*<;> omega
  · split <;> split at*<;> omega
  · split <;> split at*<;> omega
theorem fld43 (cs:Array Value) (w:World):(Instr.field 43 (.agg cs) 0).run Tryz.prog w=.ok (.agg (cs.extract 0 12)) w:=by kernel_rfl
theorem in_fld {F:Fence} {nF:Nat} {ops:Array Oper} {rest:List Oper} {o:Oper} {a:Act} {w:World} {Q:Exit→Act→World→Prop} {x:Operand} {cs:Array Value} (hgd:o.guard=none) (ho:o.op=.field 43 x 0) (hx:a.eval x=.agg cs) (h:wpListIn F nF Tryz.prog ops Q rest (a.put o.dst (.agg (cs.extract 0 12))) w):wpListIn F nF Tryz.prog ops Q (o::rest) a w:=by
  refine in_val hgd (by rw [ho]; intro c hc; cases hc) (by simp [Oper.about,ho]) (v:=.agg (cs.extract 0 12)) (w':=w) ?_ h
  simp only [execOp,ho,hx,Sem.run_bind,fld43,Result.andThen_ok,Sem.run_pure]
theorem act_box {w5 w6:World} {zs cs:Array Value} {mo:Int} (hW:Wr (w5.alloc (.cells zs 38)) w6 w5.heap.size (spl zs.toList 0 (cs.extract 0 12).toList).toArray 38) (hz:zs.size=12) (hcs:cs.size=46) (hA:ActOk mo cs) :
    Below w5.heap.size w5 w6∧∃ m c o1 o2 o3 o4:Int,w6.cell? ⟨w5.heap.size,0,none⟩=some (.int .i64 m)∧w6.cell? ⟨w5.heap.size,1,none⟩=some (.int .i64 c)∧w6.cell? ⟨w5.heap.size,2,none⟩=some (.int .i64 o1)∧w6.cell? ⟨w5.heap.size,3,none⟩=some (.int .i64 o2) ∧
      w6.cell? ⟨w5.heap.size,4,none⟩=some (.int .i64 o3)∧w6.cell? ⟨w5.heap.size,5,none⟩=some (.int .i64 o4)∧(0≤m∧m≤4)∧(1≤c∧c≤3)∧(-mo≤o1∧o1≤mo)∧(-mo≤o2∧o2≤mo)∧(-mo≤o3∧o3≤mo)∧(-mo≤o4∧o4≤mo):=by
  have hsz:w6.heap.size=w5.heap.size+1:=by rw [hW.size,alloc_size]
  refine ⟨⟨hW.os,hW.tape,hW.output,by omega,fun n hn=>(hW.same n (by omega)).trans (alloc_same w5 _ n hn)⟩,?_⟩
  obtain ⟨m,c,o1,o2,o3,o4,h0,h1,h2,h3,h4,h5,b⟩:=hA.ex
  have hx:(cs.extract 0 12).size=12:=by simp [hcs]
  have hc:=hW.cell
  rw [spl_all (by simp [hz,hcs])] at hc
  have key:∀ (i:Nat) (v:Value),i<12→cs[i]?=some v→w6.cell? ⟨w5.heap.size,i,none⟩=some v:=fun i v hi hv=>by
    rw [SE.cell_at hc,← hv]
    simp only [Array.toArray_toList]
    rw [Array.getElem?_extract]
    simp [hi,hcs]
  exact ⟨m,c,o1,o2,o3,o4,key 0 _ (by omega) h0,key 1 _ (by omega) h1,key 2 _ (by omega) h2,key 3 _ (by omega) h3,key 4 _ (by omega) h4,key 5 _ (by omega) h5,b⟩
theorem act38:(Tryz.prog.info? 38).map (·.size)=some 12:=by kernel_rfl
theorem bounds_any {w:World} (hw:GlW w) {ps:Array Value} (hps:PolA w ps) {b:Option Addr} {n c:Nat} (he:EvsIn w b n c):Calls Tryz.prog 3 #[.agg ps,.slice b n c] w fun e w'=>e=.returned (.bool true)∧Below w.heap.size w w':=by
  refine (callsIn_wide (n:=3)).1 (callsIn_of_wp Tryz.func3 rfl trivial ?_ rfl)
  simp only [Tryz.ntmps3,List.size_toArray,List.length_cons,List.length_nil,Nat.reduceAdd,Nat.reduceSub,Array.replicate_succ,Array.replicate_zero,List.push_toArray,List.append_toArray,List.nil_append,List.cons_append]
  obtain ⟨d28,hd28,hr28⟩:=pol_un
  gi_wp2
  generalize hwA:World.alloc w _=wA
  have hbA:Below w.heap.size w wA:=by rw [← hwA]; exact (Below.refl _ _).alloc (Nat.le_refl _) _
  have hboxA:wA.heap[w.heap.size]?=some (.cells ps 28 (0,0)):=by rw [← hwA]; exact heap_alloc_new w _
  rename_i K1 hK1 K2 hK2
  refine ⟨trivial,?_⟩
  refine (callsIn_wide.2 (shown_any (hw.belowW hbA))).mono ?_
  rintro e w1 ⟨rfl,hb1⟩
  have hA1:=Below.to hbA hb1
  have hw1:=hw.belowW hA1
  have hlA:w.heap.size<wA.heap.size:=(Array.getElem?_eq_some_iff.1 hboxA).1
  have hbox1:w1.heap[w.heap.size]?=some (.cells ps 28 (0,0)):=(hb1.block _ hlA).trans hboxA
  refine hK2 _ _ ?_
  gi_wp2_with (refine in_load (b:=w.heap.size) (off:=0) (n:=56) (d:=d28) rfl rfl rfl hbox1 hd28 hr28 pol_info (by have:=hps.len; omega) ?_; rw [take_all hps.len])
  rename_i K3 hK3
  refine ⟨trivial,?_⟩
  refine (callsIn_wide.2 (made_any (w00:=w) hw hA1 hw1 (hps.below hA1))).mono ?_
  rintro e w2 ⟨M,pc,MO,od,rfl,hb2,hw2,hpc,hM,hod,hfar⟩
  refine hK3 _ _ ?_
  have hpl:pc.size=56:=by simpa using hpc.len
  have hone:=polR_one hpc
  have hb02:=Below.to hA1 hb2
  gi_wp2_with (first
    | (refine in_max3 (p:=pI pc 51) (q:=pI pc 52) (r:=pI pc 53) rfl rfl rfl rfl rfl fun mv hv1 hv2 hv3 hv4=>?_)
    | (refine in_store (b:=w2.heap.size) (off:=0) (xs:=pc) (v:=.agg pc) rfl rfl rfl rfl rfl hone (by rw [hpl]; exact pol_info) (heap_alloc_new w2 _) (by rw [hpl]; simp) fun w3 hw3=>?_; simp only [Act.put,List.setIfInBounds_toArray,List.set_cons_succ,List.set_cons_zero]; obtain ⟨hb3,hpol3,hz3⟩:=set_pol hw3 rfl hpl; clear hw3; have f51:=pol_cell (i:=51) hpc hpol3 (by omega) rfl; have f52:=pol_cell (i:=52) hpc hpol3 (by omega) rfl; have f53:=pol_cell (i:=53) hpc hpol3 (by omega) rfl))
  have hmv:mostOf pc≤mv:=Int.max_le.2 ⟨hv1,Int.max_le.2 ⟨hv2,hv3⟩⟩
  rename_i K4 hK4
  refine ⟨trivial,?_⟩
  have hb03:=Below.to hb02 hb3
  refine (callsIn_wide.2 (few_any (EvsIn.below he hb03))).mono ?_
  rintro e w4 ⟨v,es,rfl,hlen,hF⟩
  have hz2:=hb02.size
  have hmo:0≤mostOf pc:=Int.le_trans (hpc.fit.most 1 (by omega)).1 (Int.le_max_left _ _)
  have hmv1:mv≤1000:=by
    have q1:=(hpc.fit.most 1 (by omega)).2
    have q2:=(hpc.fit.most 2 (by omega)).2
    have q3:=(hpc.fit.most 3 (by omega)).2
    rcases hv4 with h | h | h
    · rw [h]; exact q1
    · rw [h]; exact q2
    · rw [h]; exact q3
  have hM3:MachD pc w M MO w3 od:=hM.keep ⟨hb3.size,fun n hn=>hb3.block n (hM.lt n hn),hb3.os,hb3.tape,hb3.output⟩ (hw.belowW hb03)
  have hL:=LawL.start hw hM3 hb03 hz2 (fun h=>by have:=hM.lt _ h; omega) hpol3 hF
  obtain ⟨A,c4,rfl,hc1,hc2,hA⟩:=own_form hF.own
  obtain ⟨d48,hd48,hr48⟩:=ev_un
  clear hF hv1 hv2 hv3 hv4 f51 f52 f53
  refine hK4 _ _ ?_
  gi_wp2
  gi_loopw [10] (fun i wr=>∃ (k:Nat) (MO:Foot) (od:Option Num),k≤es.length∧i=.int .i64 k∧LawL pc w M w2.heap.size w3.heap.size w4.heap.size (.slice A es.length c4) es MO od wr) (fun i _=>es.length - (intOf i).toNat)
  case atStart=>exact ⟨0,MO,od,Nat.zero_le _,rfl,hL⟩
  case round =>
    obtain ⟨k,MO5,od5,hk,rfl,hL5⟩:=hrel
    by_cases hlt:k<es.length
    · obtain ⟨g,rfl⟩:=hA (by omega)
      obtain ⟨e,he5,hem,hat⟩:=hL5.at_ hlt
      have hstep:=hL5.step hmo hw hem
      obtain ⟨zk,zs,zB,zn,zc,zv,z1,z2,z3,z4,zg,zb⟩:=e
      gi_wp2_with (refine in_loadC (b:=g) (off:=k*10) (vs:=[.int .i64 zk,.int .i64 zs,.slice zB zn zc,.bool zv,.int .i64 z1,.int .i64 z2,.int .i64 z3,.int .i64 z4,.bool zg,.bool zb]) (d:=d48) rfl rfl rfl hat hd48 hr48 ev_size ?_)
      rename_i K5 hK5
      refine ⟨trivial,?_⟩
      refine (callsIn_wide.2 hstep).mono ?_
      rintro e w5 ⟨t,rs,od6,MO6,rfl,hL6,hs6,hF6,hT6,hrl6,hSt6,hno6⟩
      refine hK5 _ _ ?_
      obtain ⟨cs,v12,rb,rl,rc,rfl,hcs,hone6,hact,_⟩:=hT6.ex
      have hx12:(cs.extract 0 12).size=12:=by simp [hcs]
      have hone12:∀ u∈(cs.extract 0 12).toList,u.oneCell'=true:=fun u hu=>hone6 u (by
        rw [Array.toList_extract] at hu
        exact List.mem_of_mem_drop (List.mem_of_mem_take hu))
      gi_wp2_with (first
        | (refine in_fld (cs:=cs) rfl rfl rfl ?_)
        | (refine in_store (b:=w5.heap.size) (off:=0) (xs:=cs.extract 0 12) (v:=.agg (cs.extract 0 12)) rfl rfl rfl rfl rfl hone12 (by rw [hx12]; exact act38) (heap_alloc_new w5 _) (by rw [hx12]; simp) fun w6 hw6=>?_; simp only [Act.put,List.setIfInBounds_toArray,List.set_cons_succ,List.set_cons_zero]; obtain ⟨hb6,m6,c6,o1,o2,o3,o4,f0,f1,f2,f3,f4,f5,⟨m60,m64⟩,⟨c61,c63⟩,⟨o11,o12⟩,⟨o21,o22⟩,⟨o31,o32⟩,⟨o41,o42⟩⟩:=act_box hw6 rfl hcs hact; clear hw6))
      have q1:o1≤mv:=by omega
      have q2:o2≤mv:=by omega
      have q3:o3≤mv:=by omega
      have q4:o4≤mv:=by omega
      refine wpIn_loop_rounds 5 ?_
      rw [roundsIn_succ]
      gi_wp2
      rw [roundsIn_succ]
      gi_wp2
      rw [roundsIn_succ]
      gi_wp2
      rw [roundsIn_succ]
      gi_wp2
      rw [roundsIn_succ]
      gi_wp2
      exact ⟨⟨k+1,_,od6,by omega,rfl,hL6.more hw hb6⟩,by simp [intOf]; omega⟩
    · gi_wp2
      go_ret
      exact ⟨rfl,hL5.bel⟩
end SE
end
section
namespace In
open SE (GlW glT RL R)
variable {W:World}
def seatLaid:List (String×DataW Unit):=[("sidestick/gate.commands",Rows.laid_sidestick_gate_commands),("sidestick/sha.roots",Rows.laid_sidestick_sha_roots)]
theorem c267:Tryz.prog.cellsOf 267=12:=by kernel_rfl
theorem c4:Tryz.prog.cellsOf 4=1:=by kernel_rfl
theorem root_leaf:((List.range 64).all fun i=>leaf Tryz.prog 4 285 i == some 235)=true:=by kernel_rfl
theorem c285:Tryz.prog.cellsOf 285=64:=by kernel_rfl
theorem trod_len {H:Type} {enc:TypeId×Value→H} {P:Program} {base:Nat} {spare:Nat→Bool} {held:Bool} {t e n:Nat} {cs:List Value} {fuel:Nat} {x:DataW H×List MemPlace} (hu:P.underlying t=some (.array n e)) (h:DataW.trod enc P W base spare held fuel t cs=some x):cs.length=P.cellsOf t:=by
  obtain ⟨xs,m,_,_,hlen,_⟩:=DataW.trod_array hu h
  exact hlen
theorem trod_bool_eq {H:Type} {enc:TypeId×Value→H} {P:Program} {base:Nat} {spare:Nat→Bool} {held:Bool} {t:Nat} {cs:List Value} {fuel:Nat} {b:Bool} {ps:List MemPlace} (hu:P.underlying t=some .bool) (h:DataW.trod enc P W base spare held fuel t cs=some (.lit (.bool b),ps)):cs=[.bool b]:=by
  cases fuel with
  | zero=>simp [DataW.trod] at h
  | succ fuel =>
    rw [DataW.trod_step] at h
    unfold DataW.trodStep at h
    rw [hu] at h
    simp only at h
    split at h <;> try (first | (cases h; done) | (rename_i q; cases q; done) | (rename_i e1 e2; cases e1; done))
    simp only [Option.some.injEq,Prod.mk.injEq,DataW.lit.injEq,Lit.bool.injEq] at h
    rw [h.1]
theorem var_obj {name:String} {g:Nat} {cs:Array Value} (h:W.var? Tryz.prog name=some cs) (hg:Tryz.prog.globalNamed name=some g):∃ t fr,W.heap[g]?=some (.cells cs t fr):=by
  unfold World.var? at h
  rw [hg] at h
  simp only [Option.bind_some] at h
  split at h
  · rename_i c t fr hh
    cases h
    exact ⟨t,fr,hh⟩
  · cases h
theorem glw_of_laid (h:laidMetH Tryz.prog seatLaid W):GlW W:=by
  rw [MakeChecks.laidMetH_plain _ _ _ (by kernel_rfl)] at h
  obtain ⟨ps,⟨g,t,cs,fuel,p,q,hg,ht,hv,hd,⟨g',t',cs',fuel',p',q',hg',ht',hv',hd',_,_⟩,_⟩,_,_⟩:=h
  have e0:Tryz.prog.globalNamed "sidestick/gate.commands" = some 0:=by kernel_rfl
  have e1:Tryz.prog.globalNamed "sidestick/sha.roots" = some 1:=by kernel_rfl
  obtain rfl:=Option.some.inj (e0.symm.trans hg)
  obtain rfl:=Option.some.inj (e1.symm.trans hg')
  obtain rfl:=Option.some.inj ((show (Tryz.prog.globals[0]?).map (·.type)=some 267 by kernel_rfl).symm.trans ht)
  obtain rfl:=Option.some.inj ((show (Tryz.prog.globals[1]?).map (·.type)=some 285 by kernel_rfl).symm.trans ht')
  intro n l hl
  simp only [glT,cond_eq_ite] at hl
  split at hl
  · rename_i hn
    have:=SE.nbeq hn
    subst this
    cases hl
    obtain ⟨ty,fr,hh⟩:=var_obj hv e0
    refine ⟨(Array.getElem?_eq_some_iff.1 hh).1,cs,ty,fr,hh,?_⟩
    obtain ⟨xs,m,_,ex,hlen,hl,hel⟩:=DataW.trod_array Tryz.underlying267 hd
    rw [c267] at hlen
    obtain ⟨l⟩:=cs
    match l,hlen with
    | [a0,a1,a2,a3,a4,a5,a6,a7,a8,a9,a10,a11],_ =>
      match xs,hl with
      | [x0,x1,x2,x3,x4,x5,x6,x7,x8,x9,x10,x11],_ =>
        have e3:=(DataW.agg.inj (Prod.mk.inj ex).1)
        simp only [List.map_cons,List.map_nil,List.cons.injEq,and_true] at e3
        have key:∀ i,i<12→∀ (a:Value) (x:DataW Unit×List MemPlace) (b:Bool),[a0,a1,a2,a3,a4,a5,a6,a7,a8,a9,a10,a11][i]?=some a→[x0,x1,x2,x3,x4,x5,x6,x7,x8,x9,x10,x11][i]?=some x→x.1=.lit (.bool b)→a=.bool b:=fun i hi a x b ha hx hb=>by
          have h1:=hel i hi
          rw [hx,c4,Nat.mul_one] at h1
          obtain ⟨x1,x2⟩:=x
          simp only at hb
          subst hb
          have h2:=trod_bool_eq Tryz.underlying4 h1
          have h3:(List.take 1 (List.drop i [a0,a1,a2,a3,a4,a5,a6,a7,a8,a9,a10,a11]))[0]?=some a:=by
            rw [List.getElem?_take,if_pos (by omega),List.getElem?_drop]
            exact ha
          rw [h2] at h3
          simpa using h3.symm
        obtain ⟨f0,f1,f2,f3,f4,f5,f6,f7,f8,f9,f10,f11⟩:=e3
        have k0:=key 0 (by omega) _ _ _ rfl rfl f0.symm
        have k1:=key 1 (by omega) _ _ _ rfl rfl f1.symm
        have k2:=key 2 (by omega) _ _ _ rfl rfl f2.symm
        have k3:=key 3 (by omega) _ _ _ rfl rfl f3.symm
        have k4:=key 4 (by omega) _ _ _ rfl rfl f4.symm
        have k5:=key 5 (by omega) _ _ _ rfl rfl f5.symm
        have k6:=key 6 (by omega) _ _ _ rfl rfl f6.symm
        have k7:=key 7 (by omega) _ _ _ rfl rfl f7.symm
        have k8:=key 8 (by omega) _ _ _ rfl rfl f8.symm
        have k9:=key 9 (by omega) _ _ _ rfl rfl f9.symm
        have k10:=key 10 (by omega) _ _ _ rfl rfl f10.symm
        have k11:=key 11 (by omega) _ _ _ rfl rfl f11.symm
        subst k0 k1 k2 k3 k4 k5 k6 k7 k8 k9 k10 k11
        simp [RL,R]
  · split at hl
    · rename_i hn
      have:=SE.nbeq hn
      subst this
      cases hl
      obtain ⟨ty,fr,hh⟩:=var_obj hv' e1
      refine ⟨(Array.getElem?_eq_some_iff.1 hh).1,cs',ty,fr,hh,?_⟩
      have hlen:=trod_len Tryz.underlying285 hd'
      rw [c285] at hlen
      have key:∀ i,i<64→∃ z:Int,cs'.toList[i]?=some (.int .u32 z)∧0≤z∧z≤4294967295:=fun i hi=>by
        have hl:=List.all_eq_true.1 root_leaf i (List.mem_range.2 hi)
        obtain ⟨v,f',x',h1,h2⟩:=leaf_trod 4 285 i 235 _ _ _ (by simpa using hl) hd'
        obtain ⟨z,rfl,hz⟩:=trod_int Tryz.underlying235 h2
        simp only [Lit.wf,Bool.and_eq_true,decide_eq_true_eq] at hz
        exact ⟨z,h1,hz⟩
      have gen:∀ (n:Nat) (l:List Value),l.length=n→(∀ i,i<n→∃ z:Int,l[i]?=some (.int .u32 z)∧0≤z∧z≤4294967295)→RL (fun _=>none) (SE.rep n SE.u32) l:=by
        intro n
        induction n with
        | zero=>intro l h _; cases l with
          | nil=>simp [SE.rep,RL]
          | cons=>simp at h
        | succ n ih =>
          intro l h hk
          cases l with
          | nil=>simp at h
          | cons a l =>
            obtain ⟨z,hz,z1,z2⟩:=hk 0 (by omega)
            simp at hz
            subst hz
            simp only [SE.rep]
            refine SE.RL_cons.2 ⟨?_,ih l (by simpa using h) fun i hi=>by simpa using hk (i+1) (by omega)⟩
            simp only [SE.u32,R,SE.SIok]
            exact ⟨z,⟨z1,z2⟩,rfl⟩
      exact gen 64 _ hlen key
    · cases hl
end In
end
section
namespace In
open SE (PolA ByteRow isK i64)
variable {H:Type} {enc:TypeId×Value→H} {W:World} {spare:Nat→Bool} {held:Bool}
theorem pol_leaf:((List.range 56).all fun i=>leaf Tryz.prog 6 28 i == some (if isK i then 3 else 23))=true:=by kernel_rfl
theorem pol_types:Tryz.prog.cellTypes Tryz.prog.depth 28=some ((List.range 56).map fun i=>if isK i then 3 else 23):=by kernel_rfl
theorem pol_cells:Tryz.prog.cellsOf 28=56:=by kernel_rfl
theorem pol_row:∃ fs,Tryz.prog.underlying 28=some (.struct fs):=by
  have h:(match Tryz.prog.underlying 28 with | some (.struct _)=>true | _=>false)=true:=by kernel_rfl
  split at h
  · rename_i fs e; exact ⟨fs,e⟩
  · cases h
theorem pol_in {base:Nat} {v:Value} {fuel:Nat} {x:DataW H×List MemPlace} (hok:Value.okWide Tryz.prog W .any base 28 v) (h:DataW.trod enc Tryz.prog W 0 spare held fuel 28 v.cells.toList=some x) :
    ∃ ps:Array Value,v=.agg ps∧PolA W ps:=by
  unfold Value.okWide at hok
  obtain ⟨fs,hfs⟩:=pol_row
  rw [hfs] at hok
  obtain ⟨cs,rfl,hsz,ts,ht,_,hty⟩:=hok
  rw [pol_types] at ht
  cases ht
  rw [pol_cells] at hsz
  refine ⟨cs,rfl,hsz,fun i hi hk=>?_,fun i hi=>?_⟩
  · have hl:=List.all_eq_true.1 pol_leaf i (List.mem_range.2 hi)
    have hkk:isK i=true:=by
      cases hb:isK i with
      | true=>rfl
      | false =>
        obtain ⟨a,b⟩:=SE.isK_no hb
        omega
    rw [hkk] at hl
    obtain ⟨u,f',x',h1,h2⟩:=leaf_trod 6 28 i 3 _ fuel x (by simpa using hl) h
    obtain ⟨z,rfl,hz⟩:=trod_int Tryz.underlying3 h2
    exact ⟨z,by simpa [Value.cells,i64] using h1,wf_i64 hz⟩
  · have hl:=List.all_eq_true.1 pol_leaf (5+i) (List.mem_range.2 (by omega))
    have hkk:isK (5+i)=false:=by
      match i,hi with
      | 0,_=>rfl
      | 1,_=>rfl
      | 2,_=>rfl
      | 3,_=>rfl
    rw [hkk] at hl
    obtain ⟨u,f',x',h1,h2⟩:=leaf_trod 6 28 (5+i) 23 _ fuel x (by simpa using hl) h
    have h1':cs[5+i]?=some u:=by simpa [Value.cells] using h1
    rcases trod_slice Tryz.underlying23 h2 with rfl | ⟨a,len,cap,rfl,q1,q2,_⟩
    · exact ⟨none,0,0,h1',by decide,Nat.le_refl _,rfl,fun x hx=>by cases hx⟩
    · obtain ⟨_,_,hb⟩:=bytes_trod h2
      obtain ⟨t,ht1,ht2⟩:=hty (5+i) _ h1'
      have hlen:((List.range 56).map fun i=>if isK i then 3 else 23).length=56:=by simp
      rw [hlen,Nat.mod_eq_of_lt (by omega)] at ht1
      simp only [List.getElem?_map,List.getElem?_range (show 5+i<56 by omega),Option.map_some,hkk] at ht1
      cases ht1
      unfold Cell.okWide at ht2
      simp only [Bool.false_eq_true,if_false,Tryz.underlying23] at ht2
      unfold Cell.ok at ht2
      simp only [Tryz.underlying23] at ht2
      obtain ⟨hs,vs,e,fr,hg⟩:=has_obj ht2.2.2
      refine ⟨some a,len,cap,h1',?_,q1,⟨hs,vs,e,fr,hg,fun j hj=>?_⟩,fun x hx=>by cases hx; exact (Array.getElem?_eq_some_iff.1 hg).1⟩
      · have:maxLen=9223372036854775807:=rfl
        simp only [Int.ofNat_eq_natCast]
        omega
      · obtain ⟨z,z1,z2,z3⟩:=hb j hj
        rw [add_at hs,SE.cell_at hg] at z3
        exact ⟨z,z1,z2,z3⟩
end In
end
end Go.Proofs.YtdgejnakakjgfaaGreatDoor
