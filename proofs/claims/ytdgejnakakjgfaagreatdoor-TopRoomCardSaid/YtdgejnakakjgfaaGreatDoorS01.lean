/- few: events, copied. A machine, dead or alive, as a law sees it: its steps. What a law keeps while it goes over its events. The head of the laws: the run of the zero policy. The head of the laws. How things stand: the runs of core.Site. How things stand: the runs, one by one. -/
import Derived.Test.YtdgejnakakjgfaaGreatDoorS00
import Derived.Test.YtdgejnakakjgfaaGreatDoorR33
set_option linter.unusedVariables false
set_option linter.unusedSimpArgs false
set_option maxRecDepth 100000
namespace Go.Proofs.YtdgejnakakjgfaaGreatDoor
section
namespace In
open Go.RowKit Go.Shelf Mc
open SE (ByteRow i64)
attribute [local go_sem] Oper.semAt_some
set_option maxHeartbeats 4000000
structure EvF (base:Nat) (w:World) (e:Ev):Prop where
 k:inI e.k
 s:inI e.s
 x1:inI e.x1
 x2:inI e.x2
 x3:inI e.x3
 x4:inI e.x4
 n120:e.n≤120
 le:e.n≤e.c
 rd:∃ x:List UInt8,Reads w w.heap.size 1 e.B e.n (x.map bv)
 row:ByteRow w e.B e.n
 new:∀ x,e.B=some x→base≤x.block∧x.block<w.heap.size
theorem EvF.keep {base:Nat} {w w':World} {e:Ev} (h:EvF base w e) (hsz:w.heap.size≤w'.heap.size) (hs:∀ x,e.B=some x→w'.heap[x.block]?=w.heap[x.block]?):EvF base w' e:=by
 obtain ⟨x,hx⟩:=h.rd
 refine ⟨h.k,h.s,h.x1,h.x2,h.x3,h.x4,h.n120,h.le,⟨x,(reads_keep hx fun y hy _=>hs y hy).more hsz⟩,?_,fun x hx=>⟨(h.new x hx).1,Nat.lt_of_lt_of_le (h.new x hx).2 hsz⟩⟩
 have hr:=h.row
 cases hB:e.B with
 | none=>rw [hB] at hr; exact hr
 | some a =>
  rw [hB] at hr
  obtain ⟨h1,vs,t,fr,h2,h3⟩:=hr
  exact ⟨h1,vs,t,fr,(hs a hB).trans h2,h3⟩
structure FewI (w0:World) (i:Nat) (v:Value) (es:List Ev) (w:World):Prop where
 bel:Below w0.heap.size w0 w
 own:w.ownsRow w0.heap.size 48 10 v i (es.flatMap Ev.cells)
 len:es.length=i
 ev:∀ e∈es,EvF w0.heap.size w e∧∀ x,e.B=some x→v.ownBlock≠some x.block
theorem ev_info:(Tryz.prog.info? 48).map (fun i=>(i.zero,i.size,i.bytes))=some (some (.agg #[.int .i64 0,.int .i64 0,.slice none 0 0,.bool false,.int .i64 0,.int .i64 0,.int .i64 0,.int .i64 0,.bool false,.bool false]),10,96):=by kernel_rfl
theorem by_info:(Tryz.prog.info? 5).map (fun i=>(i.zero,i.size,i.bytes))=some (some (.int .u8 0),1,1):=by kernel_rfl
theorem in_loadC {F:Fence} {nF:Nat} {P:Program} {ops:Array Oper} {rest:List Oper} {o:Oper} {a:Act} {w:World} {Q:Exit→Act→World→Prop} {b off ty:Nat} {x:Operand} {vs:List Value} {d:TypeDesc} (hgd:o.guard=none) (ho:o.op=.load ty x) (hx:a.eval x=.pointer (some ⟨b,off,none⟩))
  (hc:∀ (j:Nat) v,vs[j]?=some v→w.cell? ⟨b,off+j,none⟩=some v) (hu:P.underlying ty=some d) (hd:d.isRow=true) (hi:(P.info? ty).map (·.size)=some vs.length) (h:wpListIn F nF P ops Q rest (a.put o.dst (.agg vs.toArray)) w):wpListIn F nF P ops Q (o::rest) a w:=by
 refine in_val hgd (by rw [ho]; intro c hc; cases hc) (by simp [Oper.about,ho]) (v:=.agg vs.toArray) (w':=w) ?_ h
 have:=run_loadAt_mid (P:=P) w b off ty vs d (fun j v hv=>hc j v hv) hu hd hi
 simp only [execOp,ho,hx,Sem.run_bind,this,Result.andThen_ok,Sem.run_pure]
theorem ev_un:∃ d,Tryz.prog.underlying 48=some d∧d.isRow=true:=by
 have h:(Tryz.prog.underlying 48).map (·.isRow)=some true:=by kernel_rfl
 cases hd:Tryz.prog.underlying 48 with
 | none=>rw [hd] at h; cases h
 | some d=>rw [hd] at h; exact ⟨d,rfl,by simpa using h⟩
theorem ev_size:(Tryz.prog.info? 48).map (·.size)=some 10:=by kernel_rfl
theorem own_empty (w:World) (e size:Nat):(w.alloc (.cells #[] e)).ownsRow w.heap.size e size (.slice (some ⟨w.heap.size,0,none⟩) 0 0) 0 [] :=
 ⟨by simp,.inr ⟨w.heap.size,0,#[],rfl,Nat.le_refl _,heap_alloc_new w _,Nat.le_refl _,Nat.zero_le _,by simp,by simp⟩⟩
theorem f48_2 (w:World) (b:Nat):(Instr.fieldAt 48 (.pointer (some ⟨b,0,none⟩)) 2).run Tryz.prog w=.ok (.pointer (some ⟨b,2,none⟩)) w:=by kernel_rfl
theorem sl23_info:(Tryz.prog.info? 23).map (·.size)=some 1:=by kernel_rfl
theorem bytes_one {x:List UInt8}:∀ u∈x.map bv,u.oneCell'=true:=fun u hu=>by
 obtain ⟨y,_,rfl⟩:=List.mem_map.1 hu
 rfl
theorem own_byte {w:World} {base m:Nat} {v:Value} {x:List UInt8} (h:w.ownsRow base 5 1 v m (x.map bv)):∃ A c,v=.slice A m c∧m≤c∧Reads w w.heap.size 1 A m (x.map bv)∧ByteRow w A m∧∀ y,A=some y→base≤y.block∧y.block<w.heap.size:=by
 have hl:=h.1
 rcases h.2 with ⟨rfl,h0⟩ | ⟨g,cap,cur,rfl,hb,hh,hc,_,hsz,ht⟩
 ·subst h0
  exact ⟨none,0,rfl,Nat.le_refl _,Reads.of_own h,rfl,fun y hy=>by cases hy⟩
 ·refine ⟨_,_,rfl,hc,Reads.of_own h,⟨rfl,cur,5,(0,0),hh,fun i hi=>?_⟩,fun y hy=>by cases hy; exact ⟨hb,(Array.getElem?_eq_some_iff.1 hh).1⟩⟩
  have hx:i<x.length:=by simp at hl; omega
  refine ⟨(x[i].toNat:Int),by omega,by have:=x[i].toNat_lt; omega,?_⟩
  have:(cur.toList.take (m*1))[i]?=(x.map bv)[i]?:=by rw [ht]
  rw [List.getElem?_take,if_pos (by omega),List.getElem?_map,List.getElem?_eq_getElem hx] at this
  simpa [bv] using this
theorem ev_one (e:Ev):∀ u∈e.cells,u.oneCell'=true:=fun u hu=>by
 simp only [Ev.cells,List.mem_cons,List.not_mem_nil,or_false] at hu
 rcases hu with rfl | rfl | rfl | rfl | rfl | rfl | rfl | rfl | rfl | rfl <;> rfl
structure Cp (wr w6:World) (xs:List UInt8) (A:Option Addr) (m c:Nat) (cs:Array Value):Prop where
 le:m≤c
 bel:Below wr.heap.size wr w6
 box:w6.heap[wr.heap.size]?=some (.cells cs 48 (0,0))
 new:∀ x,A=some x→wr.heap.size≤x.block∧x.block<w6.heap.size
 rd:Reads w6 w6.heap.size 1 A m (xs.map bv)
 row:ByteRow w6 A m
 one:wr.heap.size<w6.heap.size
theorem copy_ok {wr w5 w6:World} {cs cs':Array Value} {v5:Value} {m:Nat} {x:List UInt8} (hg:((wr.alloc (Obj.cells cs 48)).alloc (Obj.cells #[] 5)).grownBy w5 (Value.slice (some ⟨wr.heap.size+1,0,none⟩) 0 0).ownBlock)
  (ho:w5.ownsRow (wr.heap.size+1) 5 1 v5 (0+m) ([]++x.map bv)) (hw:Wr w5 w6 wr.heap.size cs' 48):∃ A c,v5=.slice A m c∧Cp wr w6 x A m c cs':=by
 rw [Nat.zero_add,List.nil_append] at ho
 have hz2:((wr.alloc (Obj.cells cs 48)).alloc (Obj.cells #[] 5)).heap.size=wr.heap.size+2:=by rw [alloc_size,alloc_size]
 have hz5:=hg.size
 have h56:∀ n,n≠wr.heap.size→w6.heap[n]?=w5.heap[n]?:=hw.same
 have ho6:w6.ownsRow (wr.heap.size+1) 5 1 v5 m (x.map bv):=ownsRow_keep ho fun g hg=>h56 g (by have:=(own_lt ho hg).1; omega)
 obtain ⟨A,c,rfl,h1,h2,h3,h4⟩:=own_byte ho6
 refine ⟨A,c,rfl,h1,⟨hw.os.trans hg.os,hw.tape.trans hg.tape,hw.output.trans hg.output,by rw [hw.size]; omega,fun n hn=>?_⟩,hw.cell,fun y hy=>⟨by have:=(h4 y hy).1; omega,(h4 y hy).2⟩,h2,h3,by rw [hw.size]; omega⟩
 rw [h56 n (by omega),hg.block n (by omega) (fun e=>by simp only [Value.ownBlock,Option.some.injEq] at e; omega),alloc_same _ _ n (by rw [alloc_size]; omega),alloc_same _ _ n hn]
theorem few_next {w wr w6 w7:World} {k:Nat} {u3 v7:Value} {os:List Ev} {e:Ev} {xs:List UInt8} {m c:Nat} {A:Option Addr} {cs:Array Value} (hF:FewI w k u3 os wr) (he:e.Ok w) (hm:m≤120) (hC:Cp wr w6 xs A m c cs)
  (ho:w7.ownsRow w.heap.size 48 10 v7 (k+1) (os.flatMap Ev.cells++({ e with B:=A,n:=m,c:=c }:Ev).cells)) (hg:(w6.alloc (Obj.cells (({ e with B:=A,n:=m,c:=c }:Ev).cells.toArray) 48)).grownBy w7 u3.ownBlock)
  (hb:v7.ownBlock=u3.ownBlock∨v7.ownBlock=some (w6.alloc (Obj.cells (({ e with B:=A,n:=m,c:=c }:Ev).cells.toArray) 48)).heap.size) :
  FewI w (k+1) v7 (os++[{ e with B:=A,n:=m,c:=c }]) w7:=by
 have z1:=hF.bel.size
 have z2:=hC.bel.size
 have z3:=hg.size
 rw [alloc_size] at z3 hb
 have hu:∀ g,u3.ownBlock=some g→w.heap.size≤g∧g<wr.heap.size:=fun g hg=>own_lt hF.own hg
 have k6:∀ n,n<wr.heap.size→u3.ownBlock≠some n→w7.heap[n]?=wr.heap[n]?:=fun n hn hne=>by
  rw [hg.block n (by rw [alloc_size]; omega) (fun e=>hne e.symm),alloc_same _ _ n (by omega)]
  exact hC.bel.block n hn
 have k7:∀ n,wr.heap.size≤n→n<w6.heap.size→w7.heap[n]?=w6.heap[n]?:=fun n hn hlt=>by
  rw [hg.block n (by rw [alloc_size]; omega) (fun e=>by have:=hu n e.symm; omega),alloc_same _ _ n hlt]
 refine ⟨?_,by rw [List.flatMap_append]; simpa using ho,by simp [hF.len],fun e' he'=>?_⟩
 ·refine ⟨?_,?_,?_,by omega,fun n hn=>?_⟩
  ·rw [hg.os]; show w6.os=_; rw [hC.bel.os,hF.bel.os]
  ·rw [hg.tape]; show w6.tape=_; rw [hC.bel.tape,hF.bel.tape]
  ·rw [hg.output]; show w6.output=_; rw [hC.bel.output,hF.bel.output]
  ·rw [k6 n (by omega) (fun e=>by have:=hu n e; omega)]
   exact hF.bel.block n hn
 ·rcases List.mem_append.1 he' with he' | he'
  ·obtain ⟨q1,q2⟩:=hF.ev e' he'
   refine ⟨q1.keep (by omega) fun x hx=>k6 _ (q1.new x hx).2 (q2 x hx),fun x hx e=>?_⟩
   rcases hb with hb | hb
   ·exact q2 x hx (hb.symm.trans e)
   ·rw [hb] at e
    have:=(q1.new x hx).2
    simp only [Option.some.injEq] at e
    omega
  ·rw [List.mem_singleton] at he'
   subst he'
   have q1:EvF w.heap.size w6 { e with B:=A,n:=m,c:=c }:=⟨he.k,he.s,he.x1,he.x2,he.x3,he.x4,hm,hC.le,⟨xs,hC.rd⟩,hC.row,fun x hx=>⟨by have:=(hC.new x hx).1; omega,(hC.new x hx).2⟩⟩
   refine ⟨q1.keep (by omega) fun x hx=>k7 _ (hC.new x hx).1 (hC.new x hx).2,fun x hx e=>?_⟩
   have h1:=(hC.new x hx).1
   have h2:=(hC.new x hx).2
   rcases hb with hb | hb
   ·rw [hb] at e
    have:=hu _ e
    omega
   ·rw [hb] at e
    simp only [Option.some.injEq] at e
    omega
theorem own_after {w wr w6:World} {k:Nat} {u3:Value} {os:List Ev} {xs:List UInt8} {m c:Nat} {A:Option Addr} {cs:Array Value} (hF:FewI w k u3 os wr) (hC:Cp wr w6 xs A m c cs) (o:Obj):(w6.alloc o).ownsRow w.heap.size 48 10 u3 k (os.flatMap Ev.cells) :=
 ownsRow_keep hF.own fun g hg=>by
  have:=own_lt hF.own hg
  have:=hC.bel.size
  rw [alloc_same _ _ g (by omega)]
  exact hC.bel.block g (by omega)
theorem new_row (w:World) (e:Ev):Reads (w.alloc (.cells e.cells.toArray 48)) (w.heap.size+1) 10 (some ⟨w.heap.size,0,none⟩) 1 e.cells :=
 ⟨rfl,fun _=>⟨_,rfl,by simp,fun j u hu=>by rw [add_at rfl,SE.cell_at (heap_alloc_new w _),Nat.zero_add]; simpa using hu⟩⟩
theorem few_any {w:World} {b:Option Addr} {n c:Nat} (h:EvsIn w b n c):Calls Tryz.prog 9 #[.slice b n c] w fun e w' =>
  ∃ v es,e=.returned v∧es.length≤60∧FewI w es.length v es w':=by
 obtain ⟨hnc,hcm,es,hel,hek,hrd⟩:=h
 have hn63:n≤9223372036854775807:=by simp only [maxLen] at hcm; omega
 obtain ⟨d48,hd48,hr48⟩:=ev_un
 refine (callsIn_wide (n:=3)).1 (callsIn_of_wp Tryz.func9 rfl trivial ?_ rfl)
 simp only [Tryz.ntmps9,List.size_toArray,List.length_cons,List.length_nil,Nat.reduceAdd,Nat.reduceSub,Array.replicate_succ,Array.replicate_zero,List.push_toArray,List.append_toArray,List.nil_append,List.cons_append]
 gi_wp2
 gi_loopw [3,4] (fun v i wr=>∃ (k:Nat) (os:List Ev),k≤n∧k≤60∧i=.int .i64 k∧FewI w k v os wr) (fun _ i _=>n - (intOf i).toNat)
 case atStart=>exact ⟨0,[],Nat.zero_le _,Nat.zero_le _,rfl,⟨(Below.refl _ _).alloc (Nat.le_refl _) _,own_empty w 48 10,rfl,fun e he=>by cases he⟩⟩
 case round =>
  obtain ⟨k,os,hk1,hk2,rfl,hF⟩:=hrel
  by_cases hlt:k<n∧k<60
  ·obtain ⟨ad,rfl,hadl,hcell⟩:=hrd.2 (by omega)
   obtain ⟨e,he⟩:∃ e,es[k]?=some e:=⟨es[k]'(by omega),List.getElem?_eq_getElem _⟩
   have hkc:∀ j v,e.cells[j]?=some v→w.cell? (ad.add (k*10+j))=some v:=fun j v hj=>by
    have hj10:j<10:=(List.getElem?_eq_some_iff.1 hj).1
    exact hcell _ _ ((flat_get he hj10).trans hj)
   have hspot:ad.spot=none:=by
    obtain ⟨e0,he0⟩:∃ e0,es[0]?=some e0:=⟨es[0]'(by omega),List.getElem?_eq_getElem _⟩
    have h0:=hcell 0 _ ((flat_get he0 (j:=0) (by omega)).trans rfl)
    exact (cell_obj h0).1
   obtain ⟨B,off,sp⟩:=ad
   cases hspot
   have hkc':∀ j v,e.cells[j]?=some v→wr.cell? ⟨B,off+k*10+j,none⟩=some v:=fun j v hj=>by
    have:=hkc j v hj
    rw [add_at rfl] at this
    rw [← this,← Nat.add_assoc]
    exact hF.bel.cell hadl
   have heo:=hek e (List.mem_of_getElem? he)
   obtain ⟨zk,zs,zB,zn,zc,zv,z1,z2,z3,z4,zg,zb⟩:=e
   have hzle:zn≤zc:=heo.le
   have hzmx:zc≤9223372036854775807:=heo.mx
   obtain ⟨xb,hxb⟩:=heo.rd
   simp only at hxb
   have hrb:Reads wr w.heap.size 1 zB zn (xb.map bv):=hxb.below hF.bel
   have hsw:w.heap.size≤wr.heap.size:=hF.bel.size
   obtain ⟨i5,hi5,hz5,hs5,hy5⟩:=info_parts by_info
   obtain ⟨i48,hi48,hz48,hs48,hy48⟩:=info_parts ev_info
   obtain ⟨wb,hwb⟩:∃ wb,wb=wr.alloc (Obj.cells #[.int .i64 zk,.int .i64 zs,.slice zB zn zc,.bool zv,.int .i64 z1,.int .i64 z2,.int .i64 z3,.int .i64 z4,.bool zg,.bool zb] 48):=⟨_,rfl⟩
   have szb:wb.heap.size=wr.heap.size+1:=by rw [hwb,alloc_size]
   have hE0:=own_empty wb 5 1
   rw [szb] at hE0
   have hbox:(wb.alloc (Obj.cells #[] 5)).heap[wr.heap.size]?=some (.cells #[.int .i64 zk,.int .i64 zs,.slice zB zn zc,.bool zv,.int .i64 z1,.int .i64 z2,.int .i64 z3,.int .i64 z4,.bool zg,.bool zb] 48 (0,0)):=by
    rw [alloc_same _ _ _ (by omega),hwb]
    exact heap_alloc_new wr _
   have hr2:∀ m,m≤zn→Reads (wb.alloc (Obj.cells #[] 5)) w.heap.size 1 zB m ((xb.take m).map bv):=fun m hm=>by
    have h1:=(hrb.alloc hsw (Obj.cells #[.int .i64 zk,.int .i64 zs,.slice zB zn zc,.bool zv,.int .i64 z1,.int .i64 z2,.int .i64 z3,.int .i64 z4,.bool zg,.bool zb] 48))
    rw [← hwb] at h1
    have h2:=(h1.alloc (by omega) (Obj.cells #[] 5)).take hm
    rwa [Nat.mul_one,← List.map_take] at h2
   have hone:∀ m,∀ u∈(xb.take m).map bv,u.oneCell'=true:=fun m u hu=>bytes_one u hu
   rw [hwb] at hE0 hbox hr2
   have hm1:(if (120:Int)<zn then (120:Int) else zn).toNat≤120:=by split <;> omega
   have hm2:(if (120:Int)<zn then (120:Int) else zn).toNat≤zn:=by split <;> omega
   have hmx:0+(if (120:Int)<zn then (120:Int) else zn).toNat≤maxLen:=by simp only [maxLen]; omega
   gi_wp2_with (first
    | (refine in_loadC (b:=B) (off:=off+k*10) (vs:=[.int .i64 zk,.int .i64 zs,.slice zB zn zc,.bool zv,.int .i64 z1,.int .i64 z2,.int .i64 z3,.int .i64 z4,.bool zg,.bool zb]) (d:=d48) rfl rfl rfl hkc' hd48 hr48 ev_size ?_)
    | (gi_at_builtin; refine wpListIn_append_any rfl _ _ 23 rfl (wr.heap.size+1) 5 i5 _ 1 1 Tryz.underlying23 hi5 hz5 hs5 hy5 rfl (by omega) (.slice (some ⟨wr.heap.size+1,0,none⟩) 0 0) 0 [] rfl hE0 w.heap.size zB _ zc _ rfl (hr2 (if (120:Int)<zn then (120:Int) else zn).toNat hm2) (hone _) hmx (by omega) (by rw [alloc_size,alloc_size]; omega) fun v5 w5 ho5 hg5 hb5=>?_; simp only [Act.put,List.setIfInBounds_toArray,List.set_cons_succ,List.set_cons_zero]; have hc5:=own_cells ho5; have hbox5:=(hg5.block wr.heap.size (by rw [alloc_size,alloc_size]; omega) (fun e=>by simp only [Value.ownBlock,Option.some.injEq] at e; omega)).trans hbox; refine in_field rfl rfl rfl (f48_2 _ _) ?_; simp only [Act.put,List.setIfInBounds_toArray,List.set_cons_succ,List.set_cons_zero]; refine in_store (b:=wr.heap.size) (off:=2) (xs:=#[v5]) rfl rfl rfl rfl hc5.1 (fun u hu=>by simp only [List.mem_singleton] at hu; rw [hu]; exact hc5.2) sl23_info hbox5 (by simp) fun w6 hw6=>?_; simp only [Act.put,List.setIfInBounds_toArray,List.set_cons_succ,List.set_cons_zero]; clear hc5 hbox5 hb5; obtain ⟨A6,c6,rfl,hC6'⟩:=copy_ok hg5 ho5 hw6; clear hg5 ho5 hw6; have hC6:Cp wr w6 _ A6 _ c6 #[.int .i64 zk,.int .i64 zs,.slice A6 (if (120:Int)<zn then (120:Int) else zn).toNat c6,.bool zv,.int .i64 z1,.int .i64 z2,.int .i64 z3,.int .i64 z4,.bool zg,.bool zb]:=hC6'; clear hC6')
    | (refine in_loadC (b:=wr.heap.size) (off:=0) (vs:=[.int .i64 zk,.int .i64 zs,.slice A6 (if (120:Int)<zn then (120:Int) else zn).toNat c6,.bool zv,.int .i64 z1,.int .i64 z2,.int .i64 z3,.int .i64 z4,.bool zg,.bool zb]) (d:=d48) rfl rfl rfl (fun j v hv=>by rw [SE.cell_at hC6.box,Nat.zero_add]; simpa using hv) hd48 hr48 ev_size ?_)
    | (gi_at_builtin; refine wpListIn_append_any rfl _ _ 29 rfl w.heap.size 48 i48 _ 10 96 Tryz.underlying29 hi48 hz48 hs48 hy48 rfl (by omega) u3 k _ rfl (own_after hF ‹Cp wr _ _ _ _ _ _› _) _ _ 1 _ _ rfl (new_row _ ⟨zk,zs,_,_,_,zv,z1,z2,z3,z4,zg,zb⟩) (ev_one _) (by simp only [maxLen]; omega) (by omega) (by rw [alloc_size]; have:=(‹Cp wr _ _ _ _ _ _›).one; omega) fun v7 w7 ho7 hg7 hb7=>?_; simp only [Act.put,List.setIfInBounds_toArray,List.set_cons_succ,List.set_cons_zero]; have hN:=few_next hF heo hm1 ‹Cp wr _ _ _ _ _ _› ho7 hg7 hb7; clear ho7 hg7 hb7))
   all_goals refine ⟨⟨k+1,_,by omega,by omega,?_,hN⟩,by simp [intOf]; omega⟩
   all_goals first | rfl | (simp; done) | trace_state
  ·gi_wp2
   all_goals go_ret
   all_goals exact ⟨_,os,rfl,by have:=hF.len; omega,by rw [hF.len]; exact hF⟩
end In
end
section
namespace SE
open Go.RowKit Mc
variable {w w' w00:World} {pc:Array Value}
def StepR (k s:Int) (b:Bool):Option Num→Option Num→List Rc→Prop
 | none,od,rs=>od=none∧rs=[]
 | some d,some d',rs=>∃ late who,Rel late who d d' rs∧(late=true→k=3∨k=2∧b=true)∧∀ x,who x→k=0∧s=x
 | some _,none,_=>False
theorem most_eq {pc':Array Value} (hs:∀ i,i<56→isK i=true→pc'[i]?=pc[i]?):mostOf pc'=mostOf pc:=by
 have e:∀ i,i<56→isK i=true→pI pc' i=pI pc i:=fun i hi hk=>by simp only [pI,hs i hi hk]
 simp only [mostOf,e 51 (by omega) rfl,e 52 (by omega) rfl,e 53 (by omega) rfl]
theorem gl_low (hw00:GlW w00) {n:Nat} {cs:List SV} (h:glT n=some cs):n<w00.heap.size:=(hw00 n cs h).1
theorem frm_below {M:Nat} {MO:Foot} {od:Option Num} (hbl:Below w00.heap.size w00 w) (hF:Frm MO w w') (h:MachD pc w00 M MO w od) (h':∃ MO',MachD pc w00 M MO' w' od∨∃ od',MachD pc w00 M MO' w' od'∧(od=none→od'=none)∧(od'=none→od=none)):Below w00.heap.size w00 w':=by
 have hsz:=hbl.size
 refine ⟨hF.os.trans hbl.os,hF.tape.trans hbl.tape,hF.output.trans hbl.output,Nat.le_trans hbl.size hF.size,fun n hn=>?_⟩
 have dead:MachD pc w00 M MO w none→w'.heap[n]?=w00.heap[n]?:=fun h=>by
  rw [hF.same n (by omega) (fun hm=>by have:=(h.2.2.1 n hm).2; omega)]
  exact hbl.block n hn
 have alive:∀ {d:Num} {MO':Foot},MachD pc w00 M MO' w' (some d)→w'.heap[n]?=w00.heap[n]?:=fun h=>by
  obtain ⟨pc',Bc,_,_,⟨O,g,hK,_⟩,_⟩:=h
  obtain ⟨⟨E,hG,_⟩,_⟩:=hK
  exact hG.frame n hn (fun h=>h)
 cases od with
 | none=>exact dead h
 | some d =>
  obtain ⟨MO',h' | ⟨od',h',_,h2⟩⟩:=h'
  ·exact alive h'
  ·cases od' with
   | none=>cases h2 rfl
   | some d'=>exact alive h'
theorem machD_step (hp:0≤mostOf pc) (hw00:GlW w00) (hbl:Below w00.heap.size w00 w) {M:Nat} {MO:Foot} {k s x1 x2 x3 x4:Int} {B:Option Addr} {n c:Nat} {v gv b:Bool} {x:List UInt8} {od:Option Num}
  (hI:MachD pc w00 M MO w od) (hk:isI64 k) (hs:isI64 s) (h1:isI64 x1) (h2:isI64 x2) (h3:isI64 x3) (h4:isI64 x4) (hrd:Reads w w.heap.size 1 B n (x.map bv)) (hn:n≤120) (hc:n≤c)
  (hb:ByteRow w B n) (hB:∀ x,B=some x→x.block<w.heap.size∧¬ MO x.block) :
  Calls Tryz.prog 10 #[.pointer (some ⟨M,0,none⟩),.agg #[i64 k,i64 s,.slice B n c,.bool v,i64 x1,i64 x2,i64 x3,i64 x4,.bool gv,.bool b]] w fun e w' =>
   ∃ t rs od',∃ MO':Foot,e=.returned t∧MachD pc w00 M MO' w' od'∧(∀ n,MO' n→grow MO w w' n)∧Frm MO w w'∧Below w00.heap.size w00 w'∧ToldR (mostOf pc) w' t rs∧rs.length≤8000∧StepR k s b od od' rs∧∀ cs x n c,t=.agg cs→cs[13]?=some (.slice (some x) n c)→¬ MO' x.block:=by
 have hx:∀ x∈[x1,x2,x3,x4],-9223372036854775808≤x∧x≤9223372036854775807:=by
  intro x hx
  simp only [List.mem_cons,List.not_mem_nil,or_false] at hx
  rcases hx with rfl | rfl | rfl | rfl
  ·exact h1
  ·exact h2
  ·exact h3
  ·exact h4
 cases od with
 | none =>
  have hI':=hI
  obtain ⟨hD,hMM,hlt,hw⟩:=hI
  have hM:=hlt M hMM
  obtain ⟨z,hz,hh⟩:=hD
  have hMg:∀ cs,glT M≠some cs:=fun cs h=>by have:=gl_low hw00 h; omega
  refine (dead_step hw ⟨z,⟨by omega,by omega⟩,hh⟩ hk hs h1 h2 h3 h4 hn hc hb (fun x hx=>⟨(hB x hx).1,fun e=>(hB x hx).2 (by rw [e]; exact hMM)⟩) hMg).mono fun e w' he=>?_
  obtain ⟨hbe,rfl⟩:=he
  have hF:Frm MO w w':=⟨hbe.size,fun n hn _=>hbe.block n hn,hbe.os,hbe.tape,hbe.output⟩
  have hN:MachD pc w00 M (grow MO w w') w' none:=by
   refine ⟨⟨z,hz,(hbe.block M hM.1).trans hh⟩,.inl hMM,?_,hw.belowW hbe⟩
   rintro n (h | h)
   ·exact ⟨Nat.lt_of_lt_of_le (hlt n h).1 hbe.size,(hlt n h).2⟩
   ·exact ⟨h.2,by have:=hbl.size; omega⟩
  exact ⟨_,[],none,_,rfl,hN,fun n h=>h,hF,frm_below hbl hF hI' ⟨_,.inl hN⟩,dead_told hp,by simp,⟨rfl,rfl⟩,fun cs x n c hcs hx=>by cases hcs; cases hx⟩
 | some d =>
  have hI':=hI
  obtain ⟨pc',Bc,hp',hsame,hI⟩:=hI
  have hst:=step_ok (core_i hp' w00 Bc) (fun l d=>Rel.refl _ d) (fun l d1 d2 d3 r1 r2=>Rel.trans) hI (k:=k) (s:=s) (v:=v) (gv:=gv) (b:=b) (c:=c) hx hrd hn fun x hx=>(hB x hx).2
  refine (callsIn_wide.1 hst).mono fun e w' he=>?_
  obtain ⟨d',t,rs,MO',rfl,q1,qs,q2,q3,q4,q5,q6⟩:=he
  have hN:MachD pc w00 M MO' w' (some d'):=⟨pc',Bc,hp',hsame,q1⟩
  rw [most_eq hsame] at q3
  refine ⟨t,rs,some d',MO',rfl,hN,qs,q2,frm_below hbl q2 hI' ⟨_,.inr ⟨_,hN,(fun h=>by cases h),(fun h=>by cases h)⟩⟩,q3,q4,?_,q6⟩
  rcases q5 with ⟨e0,l,e1,l1,l2,r⟩ | ⟨e0,r⟩ | ⟨e0,r⟩ | ⟨e0,r⟩ | ⟨e0,e1⟩
  ·exact ⟨_,_,r,(fun h=>by cases h),fun x hx=>⟨e0,by rw [e1,hx]⟩⟩
  ·exact ⟨_,_,r,(fun h=>by cases h),fun x hx=>hx.elim⟩
  ·exact ⟨_,_,r,fun h=>.inr ⟨e0,h⟩,fun x hx=>hx.elim⟩
  ·exact ⟨_,_,r,fun h=>.inl e0,fun x hx=>hx.elim⟩
  ·rw [← e0,e1]
   exact ⟨_,_,Rel.refl (fun _=>False) d,(fun h=>by cases h),fun x hx=>hx.elim⟩
end SE
end
section
namespace SE
open Go.RowKit Mc In
variable {w w' wr wr':World} {pc:Array Value} {M r base hi:Nat} {v:Value} {es:List Ev} {MO:Foot} {od:Option Num}
structure LawL (pc:Array Value) (w:World) (M r base hi:Nat) (v:Value) (es:List Ev) (MO:Foot) (od:Option Num) (wr:World):Prop where
 mach:MachD pc w M MO wr od
 bel:Below w.heap.size w wr
 top:hi≤wr.heap.size
 rlo:w.heap.size≤r∧r<wr.heap.size∧¬ MO r
 pol:wr.heap[r]?=some (.cells pc 28 (0,0))
 own:wr.ownsRow base 48 10 v es.length (es.flatMap Ev.cells)
 olt:∀ g,v.ownBlock=some g→g<hi
 ev:∀ e∈es,EvF base wr e
 elt:∀ e∈es,∀ x,e.B=some x→x.block<hi
 far:∀ n,base≤n→n<hi→¬ MO n
 blo:w.heap.size≤base
theorem LawL.lt (h:LawL pc w M r base hi v es MO od wr):∀ n,MO n→n<wr.heap.size:=h.mach.lt
theorem LawL.upd (hw:GlW w) (h:LawL pc w M r base hi v es MO od wr) (hsz:wr.heap.size≤wr'.heap.size) (hs:∀ n,n<wr.heap.size→(n=r∨(base≤n∧n<hi)∨MO n∨n<w.heap.size)→wr'.heap[n]?=wr.heap[n]?)
  (ho:wr'.os=wr.os) (ht:wr'.tape=wr.tape) (hu:wr'.output=wr.output):LawL pc w M r base hi v es MO od wr':=by
 have hb:Below w.heap.size w wr':=⟨ho.trans h.bel.os,ht.trans h.bel.tape,hu.trans h.bel.output,Nat.le_trans h.bel.size hsz,fun n hn=>by
  have:=h.bel.size
  rw [hs n (by omega) (.inr (.inr (.inr hn)))]
  exact h.bel.block n hn⟩
 refine ⟨h.mach.keep ⟨hsz,fun n hn=>hs n (h.lt n hn) (.inr (.inr (.inl hn))),ho,ht,hu⟩ (hw.belowW hb),hb,Nat.le_trans h.top hsz,⟨h.rlo.1,Nat.lt_of_lt_of_le h.rlo.2.1 hsz,h.rlo.2.2⟩,(hs r h.rlo.2.1 (.inl rfl)).trans h.pol,?_,h.olt,fun e he=>(h.ev e he).keep hsz fun x hx=>?_,h.elt,h.far,h.blo⟩
 ·refine ownsRow_keep h.own fun g hg=>hs g (own_lt h.own hg).2 (.inr (.inl ⟨(own_lt h.own hg).1,h.olt g hg⟩))
 ·exact hs _ ((h.ev e he).new x hx).2 (.inr (.inl ⟨((h.ev e he).new x hx).1,h.elt e he x hx⟩))
theorem LawL.more (hw:GlW w) (h:LawL pc w M r base hi v es MO od wr) (hb:Below wr.heap.size wr wr'):LawL pc w M r base hi v es MO od wr' :=
 h.upd hw hb.size (fun n hn _=>hb.block n hn) hb.os hb.tape hb.output
theorem LawL.set (hw:GlW w) (h:LawL pc w M r base hi v es MO od wr) {b t:Nat} {cs:Array Value} (hW:Wr wr wr' b cs t) (h1:w.heap.size≤b) (h2:b≠r) (h3:b<base∨hi≤b) (h4:¬ MO b):LawL pc w M r base hi v es MO od wr' :=
 h.upd hw (Nat.le_of_eq hW.size.symm) (fun n hn hc=>hW.same n (fun e=>by
  subst e
  rcases hc with hc | hc | hc | hc
  ·exact h2 hc
  ·omega
  ·exact h4 hc
  ·omega)) hW.os hW.tape hW.output
theorem LawL.start (hw:GlW w) {w3 w4:World} (hM:MachD pc w M MO w3 od) (hb:Below w.heap.size w w3) (hr:w.heap.size≤r) (hrM:¬ MO r) (hpol:w3.heap[r]?=some (.cells pc 28 (0,0))) (hF:FewI w3 es.length v es w4) :
  LawL pc w M r w3.heap.size w4.heap.size v es MO od w4:=by
 have h34:=hF.bel
 have hz:=h34.size
 have hb4:Below w.heap.size w w4:=⟨h34.os.trans hb.os,h34.tape.trans hb.tape,h34.output.trans hb.output,Nat.le_trans hb.size hz,fun n hn=>by
  have:=hb.size
  rw [h34.block n (by omega)]
  exact hb.block n hn⟩
 have hrl:=(Array.getElem?_eq_some_iff.1 hpol).1
 exact ⟨hM.keep ⟨hz,fun n hn=>h34.block n (hM.lt n hn),h34.os,h34.tape,h34.output⟩ (hw.belowW hb4),hb4,Nat.le_refl _,⟨hr,by omega,hrM⟩,(h34.block r hrl).trans hpol,hF.own,fun g hg=>(own_lt hF.own hg).2,fun e he=>(hF.ev e he).1,
  fun e he x hx=>((hF.ev e he).1.new x hx).2,fun n h1 h2 h3=>by have:=hM.lt n h3; omega,hb.size⟩
theorem own_form {n:Nat} {xs:List Value} (h:wr.ownsRow base 48 10 v n xs):∃ A c,v=.slice A n c∧n≤c∧c≤maxLen∧(0<n→∃ g,A=some ⟨g,0,none⟩):=by
 rcases h.2 with ⟨rfl,rfl⟩ | ⟨g,cap,cur,rfl,_,_,h1,h2,_⟩
 ·exact ⟨none,0,rfl,Nat.le_refl _,Nat.zero_le _,fun h=>absurd h (by omega)⟩
 ·exact ⟨_,_,rfl,h1,h2,fun _=>⟨g,rfl⟩⟩
theorem LawL.at_ {g c:Nat} (h:LawL pc w M r base hi (.slice (some ⟨g,0,none⟩) es.length c) es MO od wr) {i:Nat} (hi':i<es.length):∃ e,es[i]?=some e∧e∈es∧∀ (j:Nat) u,e.cells[j]?=some u→wr.cell? ⟨g,i*10+j,none⟩=some u:=by
 obtain ⟨e,he⟩:∃ e,es[i]?=some e:=⟨es[i],List.getElem?_eq_getElem hi'⟩
 refine ⟨e,he,List.mem_of_getElem? he,fun j u hu=>?_⟩
 have hr:=Reads.of_own h.own
 obtain ⟨ad,e1,_,e3⟩:=hr.2 (by
  rcases h.own.2 with ⟨h0,_⟩ | ⟨g',cap,cur,h0,_⟩
  ·cases h0
  ·cases h0; omega)
 cases e1
 have hj:j<10:=(List.getElem?_eq_some_iff.1 hu).1
 have:=e3 (i*10+j) u ((flat_get he hj).trans hu)
 rwa [add_at rfl,Nat.zero_add] at this
theorem LawL.after (h:LawL pc w M r base hi v es MO od wr) {MO':Foot} {od':Option Num} (h1:MachD pc w M MO' w' od') (hs:∀ n,MO' n→grow MO wr w' n) (h2:Frm MO wr w') (h3:Below w.heap.size w w'):LawL pc w M r base hi v es MO' od' w':=by
 have hng:∀ n,base≤n→n<hi→¬ MO' n:=fun n a b c=>by
  rcases hs n c with c | c
  ·exact h.far n a b c
  ·have:=h.top; omega
 refine ⟨h1,h3,Nat.le_trans h.top h2.size,⟨h.rlo.1,Nat.lt_of_lt_of_le h.rlo.2.1 h2.size,fun c=>by
  rcases hs r c with c | c
  ·exact h.rlo.2.2 c
  ·have:=h.rlo.2.1; omega⟩,(h2.same r h.rlo.2.1 h.rlo.2.2).trans h.pol,?_,h.olt,fun e he=>(h.ev e he).keep h2.size fun x hx=>?_,h.elt,hng,h.blo⟩
 ·refine ownsRow_keep h.own fun g hg=>h2.same g (own_lt h.own hg).2 (h.far g (own_lt h.own hg).1 (h.olt g hg))
 ·exact h2.same _ ((h.ev e he).new x hx).2 (h.far _ ((h.ev e he).new x hx).1 (h.elt e he x hx))
theorem LawL.step (hp:0≤mostOf pc) (hw:GlW w) (h:LawL pc w M r base hi v es MO od wr) {e:Ev} (he:e∈es) :
  Calls Tryz.prog 10 #[.pointer (some ⟨M,0,none⟩),.agg #[i64 e.k,i64 e.s,.slice e.B e.n e.c,.bool e.v,i64 e.x1,i64 e.x2,i64 e.x3,i64 e.x4,.bool e.g,.bool e.b]] wr fun e' w' =>
   ∃ t rs od',∃ MO':Foot,e'=.returned t∧LawL pc w M r base hi v es MO' od' w'∧(∀ n,MO' n→grow MO wr w' n)∧Frm MO wr w'∧ToldR (mostOf pc) w' t rs∧rs.length≤8000∧StepR e.k e.s e.b od od' rs∧∀ cs x n c,t=.agg cs→cs[13]?=some (.slice (some x) n c)→¬ MO' x.block:=by
 have q:=h.ev e he
 obtain ⟨x,hx⟩:=q.rd
 refine (machD_step hp hw h.bel h.mach q.k q.s q.x1 q.x2 q.x3 q.x4 hx q.n120 q.le q.row fun x hx=>⟨(q.new x hx).2,h.far _ (q.new x hx).1 (h.elt e he x hx)⟩).mono fun e' w' hh=>?_
 obtain ⟨t,rs,od',MO',rfl,h1,hs,h2,h3,h4,h5,h6,h7⟩:=hh
 exact ⟨t,rs,od',MO',rfl,h.after h1 hs h2 h3,hs,h2,h4,h5,h6,h7⟩
end SE
end
section
namespace SE
open Go.RowKit Mc
set_option maxHeartbeats 0
variable {w w':World}
def zPolL:List SV:=rep 5 (N 0)++rep 4 .nils++rep 47 (N 0)
def evZ:List SV:=[N 3,N 0,.nils,.ff,N 0,N 0,N 0,N 0,.ff,.ff]
def s14:SE.St:=⟨[(5,.ro 48 evZ)],[],[],50,[]⟩
def siteL:List SV:=rep 19 (N 0)++[.nils]++rep 5 .ff++rep 5 (N 0)++[.ff]
def fixL:List SV:=[N 4,N 1,N 0,N 0,N 0,N 0,N 2,N 4,N 0,N 2,N 4,N 0]
def zPolV:List Value:=List.replicate 5 (i64 0)++List.replicate 4 (.slice none 0 0)++List.replicate 47 (i64 0)
def evV:List Value:=[i64 3,i64 0,.slice none 0 0,.bool false,i64 0,i64 0,i64 0,i64 0,.bool false,.bool false]
def siteV:List Value:=List.replicate 19 (i64 0)++[.slice none 0 0]++List.replicate 5 (.bool false)++List.replicate 5 (i64 0)++[.bool false]
def fixV:List Value:=[i64 4,i64 1,i64 0,i64 0,i64 0,i64 0,i64 2,i64 4,i64 0,i64 2,i64 4,i64 0]
theorem zpol_cv:cvL zPolL=some zPolV:=by kernel_rfl
theorem ev_cv:cvL evZ=some evV:=by kernel_rfl
theorem site_cv:cvL siteL=some siteV:=by kernel_rfl
theorem fix_cv:cvL fixL=some fixV:=by kernel_rfl
def rowO (st:SE.St) (i:Nat):Bool:=match lk st.sls i with
 | some (.row b 1)=>(match lk st.heap b with
  | some (.row 43 46 sid cs)=>SV.beqCs cs deadL&&Nat.beq sid i
  | _=>false)
 | _=>false
def o14r (o:SV×SE.St):Bool:=match o.1 with
 | .tup [.sl i,s,e]=>SV.beq s (.agg siteL)&&(SV.beq e (N 40)&&rowO o.2 i)
 | _=>false
noncomputable def run14:Bool:=runO o14r (run (Xw (kL [])).T 60 14 [.agg zPolL,.slc 5 0 1 1] s14)
theorem run14_r:run14=true:=by decide +kernel
noncomputable def run15:Bool:=runIs (.agg fixL) (run (Xw (kL [])).T 60 15 [] emptySt)
theorem run15_r:run15=true:=by decide +kernel
def E14 (g:Nat):Env:=fun id=>if id=5 then some (.blk g) else none
theorem zpol_any (hw:GlW w) {g:Nat} {ps es:Array Value} (hps:ps.toList=zPolV) (hes:es.toList=evV) (hg:w.heap[g]?=some (.cells es 48 (0,0))) (hMg:∀ cs,glT g≠some cs) :
  Calls Tryz.prog 14 #[.agg ps,.slice (some ⟨g,0,none⟩) 1 1] w fun e w' =>
   Below w.heap.size w w'∧∃ (n c:Nat) (cs ss:Array Value),e=.returned (.tuple #[.slice (some ⟨n,0,none⟩) 1 c,.agg ss,i64 40])∧ss.toList=siteV∧w'.heap[n]?=some (.cells cs 43 (0,0))∧cs.toList.take 46=deadVs∧1≤c:=by
 have hG:G (Xw (kL [])) (fun _=>False) w (E14 g) s14 w:=by
  refine ⟨Nat.le_refl _,rfl,rfl,rfl,fun n _ _=>rfl,fun id blk hl=>?_,fun id id' b b' n hl hl' _ _=>?_,fun id lo hi hl=>(by simp [s14,lk] at hl),fun id i hl=>(by simp [s14,lk] at hl),fun id hid=>?_,fun g' cs hg'=>?_,fun x hx=>(by cases hx)⟩
  ·have hm:=lk_mem hl
   simp only [s14,List.mem_cons,List.not_mem_nil,or_false,Prod.mk.injEq] at hm
   obtain ⟨rfl,rfl⟩:=hm
   refine .inr ⟨g,rfl,(Array.getElem?_eq_some_iff.1 hg).1,.inl rfl,_,hg,?_⟩
   rw [hes]
   exact cvL_R ev_cv fun x _ v hv=>cvV_R hv
  ·have hm:=lk_mem hl
   have hm':=lk_mem hl'
   simp only [s14,List.mem_cons,List.not_mem_nil,or_false,Prod.mk.injEq] at hm hm'
   rw [hm.1,hm'.1]
  ·have hid:50≤id:=hid
   simp only [E14]
   rw [if_neg (by omega)]
  ·obtain ⟨h1,vs,e,fr,h2,h3⟩:=hw g' cs hg'
   refine ⟨h1,fun id blk hl' hE=>?_,vs,e,fr,h2,clL_ok (glT_cl g' cs hg') h3⟩
   have hm':=lk_mem hl'
   simp only [s14,List.mem_cons,List.not_mem_nil,or_false,Prod.mk.injEq] at hm'
   rw [hm'.1] at hE
   simp only [E14,if_true,Option.some.injEq,EV.blk.injEq] at hE
   subst hE
   exact hMg cs hg'
 have e:=run14_r
 unfold run14 at e
 cases hrun:run (Xw (kL [])).T 60 14 [.agg zPolL,.slc 5 0 1 1] s14 with
 | none=>rw [hrun] at e; cases e
 | some out =>
  rw [hrun] at e
  refine (run_ok (X:=Xw (kL [])) tabw pkw rkw (kok (X:=Xw (kL [])) (ks:=[]) trivial rfl _ w) 60 hrun hG (RL_cons.2 ⟨?_,RL_cons.2 ⟨?_,by simp [RL]⟩⟩)).mono fun e' w' he=>?_
  ·simp only [R]
   exact ⟨ps,rfl,by rw [hps]; exact cvL_R zpol_cv fun x _ v hv=>cvV_R hv⟩
  ·simp only [R]
   exact ⟨g,rfl,rfl⟩
  ·obtain ⟨⟨o1,o2⟩,ho,E',x,h1,rfl,h3,h4⟩:=he
   have hO:=allO_ok e _ ho
   simp only [o14r] at hO
   split at hO
   ·rename_i i s ee
    simp only [Bool.and_eq_true] at hO
    obtain ⟨k1,k2,k3⟩:=hO
    have:=SV.beq_eq _ _ k1
    subst this
    have:=SV.beq_eq _ _ k2
    subst this
    simp only [R] at h3
    obtain ⟨cs,rfl,h3⟩:=h3
    obtain ⟨l⟩:=cs
    match l,RL_length h3 with
    | [v0,v1,v2],_ =>
     obtain ⟨q0,h3⟩:=RL_cons.1 h3
     obtain ⟨q1,h3⟩:=RL_cons.1 h3
     obtain ⟨q2,h3⟩:=RL_cons.1 h3
     simp only [R] at q0 q1
     obtain ⟨base,len,cap,e0,rfl⟩:=q0
     obtain ⟨ss,rfl,hss⟩:=q1
     have q2':=cvV_ok (x:=N 40) (v:=i64 40) (by kernel_rfl) q2
     subst q2'
     unfold rowO at k3
     split at k3
     ·rename_i b hb
      split at k3
      ·rename_i sid cs hcs
       simp only [Bool.and_eq_true] at k3
       have a1:=SV.beqCs_eq k3.1
       have a2:=nbeq k3.2
       subst a1
       subst a2
       obtain ⟨n,cap',f1,f2⟩:=h4.sls _ _ hb
       rw [e0] at f2
       cases f2
       rcases h4.heap _ _ hcs with ⟨hh,_⟩ | ⟨n',g1,g2,g3,vs,len',cap'',g4,g5,g6,g7,g8,g9⟩
       ·cases hh
       ·rw [f1] at g1
        cases g1
        rw [e0] at g5
        cases g5
        exact ⟨below_of h4,n,cap,vs,ss,rfl,cvL_ok site_cv hss,g4,cvL_ok dead_cv g9,g8⟩
      ·cases k3
     ·cases k3
   ·cases hO
theorem fixed_any (hw:GlW w):Calls Tryz.prog 15 #[] w fun e w'=>∃ cs:Array Value,e=.returned (.agg cs)∧cs.toList=fixV∧Below w.heap.size w w':=by
 refine (pure_run (X:=Xw (kL [])) tabw pkw rkw (fun w=>kok (X:=Xw (kL [])) (ks:=[]) trivial rfl _ w) rfl (l:=fixL) (by decide +kernel) run15_r hw (by simp [RL])).mono fun e w' he=>?_
 obtain ⟨cs,rfl,h1,h2⟩:=he
 exact ⟨cs,rfl,cvL_ok fix_cv h1,h2⟩
end SE
end
section
namespace SE
open Go.RowKit Mc
attribute [local go_sem] Oper.semAt_some
set_option maxHeartbeats 4000000
section
variable {P:Program} {ops:Array Oper} {o:Oper} {a:Act} {w:World} {Q:Exit→Act→World→Prop} {K:Act→World→Prop} {i:Nat}
theorem op_valg {v:Value} {w':World} (hi:ops[i]?=some o) (hg:Region.wanted o (yielded ops a.tmps)=true) (hrun:(execOp a.eval o).run P w=.ok (.value v) w') (h:K (a.put o.dst v) w'):wpOp P ops Q i K a w:=by
 unfold Go.wpOp
 simp only [hi]
 rw [if_pos hg]
 refine .inl ?_
 unfold Oper.wp
 rw [hrun]
 exact h
theorem op_callg {f:FuncId} {args:Array Value} (hi:ops[i]?=some o) (hg:Region.wanted o (yielded ops a.tmps)=true) (hrun:(execOp a.eval o).run P w=.ok (.enter f args) w) (h:Calls P f args w fun e w'=>∃ v,e=.returned v∧K (a.put o.dst v) w'):wpOp P ops Q i K a w:=by
 unfold Go.wpOp
 simp only [hi]
 rw [if_pos hg]
 refine .inl ?_
 unfold Oper.wp
 rw [hrun]
 simp only [Oper.upon]
 refine Calls.mono h fun e w'' he=>?_
 obtain ⟨v,rfl,hk⟩:=he
 exact hk
end
theorem act_un:∃ d,Tryz.prog.underlying 38=some d∧d.isRow=true:=by
 have h:(Tryz.prog.underlying 38).map (·.isRow)=some true:=by kernel_rfl
 cases hd:Tryz.prog.underlying 38 with
 | none=>rw [hd] at h; cases h
 | some d=>rw [hd] at h; exact ⟨d,rfl,by simpa using h⟩
theorem act_info:(Tryz.prog.info? 38).map (·.size)=some 12:=by kernel_rfl
theorem site_info:(Tryz.prog.info? 55).map (·.size)=some 31:=by kernel_rfl
theorem name15:Tryz.f15.name ≠ "runtime.NumGoroutine" := by
 have h:(Tryz.f15.name == "runtime.NumGoroutine")=false:=by kernel_rfl
 intro e
 rw [e] at h
 cases h
theorem body15:Tryz.f15.body≠none:=by
 have h:Tryz.f15.body.isNone=false:=by kernel_rfl
 intro e
 rw [e] at h
 cases h
theorem shown_any {w:World} (hw:GlW w):Calls Tryz.prog 7 #[] w fun e w'=>e=.returned (.bool true)∧Below w.heap.size w w':=by
 refine (callsIn_wide (n:=3)).1 (callsIn_of_wp Tryz.func7 rfl trivial ?_ rfl)
 simp only [Tryz.ntmps7,List.size_toArray,List.length_cons,List.length_nil,Nat.reduceAdd,Nat.reduceSub,Array.replicate_succ,Array.replicate_zero,List.push_toArray,List.append_toArray,List.nil_append,List.cons_append]
 gi_wp2
 rename_i K1 hK1 K2 hK2
 generalize hwA:World.alloc w _=wA
 have hbA:Below w.heap.size w wA:=by rw [← hwA]; exact (Below.refl _ _).alloc (Nat.le_refl _) _
 have hboxA:∃ es:Array Value,wA.heap[w.heap.size]?=some (.cells es 48 (0,0))∧es.toList=evV:=⟨_,by rw [← hwA]; exact heap_alloc_new w _,rfl⟩
 obtain ⟨es,hbox,hes⟩:=hboxA
 refine ⟨trivial,?_⟩
 refine (callsIn_wide.2 (zpol_any (hw.belowW hbA) (by rfl) hes hbox fun cs h=>by have:=(hw _ _ h).1; omega)).mono ?_
 rintro e w1 ⟨hb1,n,c,cs,ss,rfl,hss,hn,hcs,hc1⟩
 refine hK2 _ _ ?_
 obtain rfl:ss=siteV.toArray:=by rw [← hss]
 have hone:∀ u∈siteV.toArray.toList,u.oneCell'=true:=by
  intro u hu
  have hall:siteV.all (fun u=>u.oneCell')=true:=by decide
  exact List.all_eq_true.1 hall u hu
 gi_wp2_with (first
  | (refine in_store (b:=w1.heap.size) (off:=0) (xs:=siteV.toArray) (v:=.agg siteV.toArray) rfl rfl rfl rfl rfl hone site_info (heap_alloc_new w1 _) (by decide) fun w2 hw2=>?_; simp only [Act.put,List.setIfInBounds_toArray,List.set_cons_succ,List.set_cons_zero])
  | fail)
 rename_i K3 hK3
 have hmx:Tryz.prog.follows .mixedOrders=true:=by kernel_rfl
 obtain ⟨d38,hd38,hr38⟩:=act_un
 have zA:=hbA.size
 have z1:=hb1.size
 have z2:w2.heap.size=w1.heap.size+1:=by rw [hw2.size,alloc_size]
 have hnl:n<w1.heap.size:=(Array.getElem?_eq_some_iff.1 hn).1
 have k12:∀ m,m<w1.heap.size→w2.heap[m]?=w1.heap[m]?:=fun m hm=>(hw2.same m (by omega)).trans (alloc_same w1 _ m hm)
 obtain ⟨wD,hwD0⟩:∃ wD,wD=w2.drew:=⟨_,rfl⟩
 have hD:wD.heap=w2.heap:=by rw [hwD0]; rfl
 have b12:Below w1.heap.size w1 w2:=⟨hw2.os,hw2.tape,hw2.output,by omega,k12⟩
 have b2D:Below w2.heap.size w2 wD:=by rw [hwD0]; exact ⟨rfl,rfl,rfl,Nat.le_refl _,fun n _=>rfl⟩
 have bD:Below w.heap.size w wD:=⟨b2D.os.trans (b12.os.trans (hb1.os.trans hbA.os)),b2D.tape.trans (b12.tape.trans (hb1.tape.trans hbA.tape)),b2D.output.trans (b12.output.trans (hb1.output.trans hbA.output)),by rw [hD]; omega,fun m hm=>by rw [hD,k12 m (by omega),hb1.block m (by omega)]; exact hbA.block m hm⟩
 have hwD:GlW wD:=hw.belowW bD
 have cD:wD.heap[n]?=some (.cells cs 43 (0,0)):=by rw [hD,k12 n hnl]; exact hn
 have hnD:n<wD.heap.size:=by rw [hD]; omega
 have hsz:46≤cs.size:=by
  have:=congrArg List.length hcs
  rw [List.length_take,Array.length_toList] at this
  have e:deadVs.length=46:=rfl
  omega
 have hfix:((cs.toList.drop 0).take 12).toArray=fixV.toArray:=by
  have:cs.toList.take 12=(cs.toList.take 46).take 12:=by rw [List.take_take]; rfl
  rw [List.drop_zero,this,hcs]
  rfl
 clear hw2 hwA hbox hes hone hss
 refine wpIn_wide.2 (wp_region_any hmx ?_)
 have hwD':({ w2 with drawn:=w2.drawn+1 }:World)=wD:=by rw [hwD0]; rfl
 rw [hwD']
 have fin:∀ w3:World,Below wD.heap.size wD w3→Below w.heap.size w w3:=fun w3 hb=>⟨hb.os.trans bD.os,hb.tape.trans bD.tape,hb.output.trans bD.output,Nat.le_trans bD.size hb.size,fun m hm=>(hb.block m (Nat.lt_of_lt_of_le hm bD.size)).trans (bD.block m hm)⟩
 show wpAny _ _ _ _ 16 #[false,false,false,false,false,false,false,false,false,false,false,false,false,false,false,false] _ _
 refine wpAny_one (i:=0) (by kernel_rfl) ?_
 refine op_valg (i:=0) (v:=.slice (some ⟨n,0,none⟩) 1 c) (w':=wD) rfl (by kernel_rfl) (by kernel_rfl) ?_
 simp only [List.getElem_toArray,List.getElem_cons_zero,List.getElem_cons_succ,Act.put,List.setIfInBounds_toArray,List.set_cons_succ,List.set_cons_zero]
 refine wpAny_one (i:=1) (by kernel_rfl) ?_
 refine op_valg (i:=1) (v:=i64 1) (w':=wD) rfl (by kernel_rfl) (by kernel_rfl) ?_
 simp only [List.getElem_toArray,List.getElem_cons_zero,List.getElem_cons_succ,Act.put,List.setIfInBounds_toArray,List.set_cons_succ,List.set_cons_zero]
 refine wpAny_one (i:=2) (by kernel_rfl) ?_
 refine op_valg (i:=2) (v:=.bool true) (w':=wD) rfl (by kernel_rfl) (by kernel_rfl) ?_
 simp only [List.getElem_toArray,List.getElem_cons_zero,List.getElem_cons_succ,Act.put,List.setIfInBounds_toArray,List.set_cons_succ,List.set_cons_zero]
 refine wpAny_one (i:=3) (by kernel_rfl) ?_
 refine op_valg (i:=3) (v:=.bool true) (w':=wD) rfl (by kernel_rfl) (by kernel_rfl) ?_
 simp only [List.getElem_toArray,List.getElem_cons_zero,List.getElem_cons_succ,Act.put,List.setIfInBounds_toArray,List.set_cons_succ,List.set_cons_zero]
 refine wpAny_two (i:=4) (j:=8) (by kernel_rfl) ?_ ?_
 ·skip
  refine op_valg (i:=4) (v:=.slice (some ⟨n,0,none⟩) 1 c) (w':=wD) rfl (by kernel_rfl) (by kernel_rfl) ?_
  simp only [List.getElem_toArray,List.getElem_cons_zero,List.getElem_cons_succ,Act.put,List.setIfInBounds_toArray,List.set_cons_succ,List.set_cons_zero]
  refine wpAny_two (i:=5) (j:=8) (by kernel_rfl) ?_ ?_
  ·skip
   refine op_valg (i:=5) (v:=.pointer (some ⟨n,0,none⟩)) (w':=wD) rfl (by kernel_rfl) (by kernel_rfl) ?_
   simp only [List.getElem_toArray,List.getElem_cons_zero,List.getElem_cons_succ,Act.put,List.setIfInBounds_toArray,List.set_cons_succ,List.set_cons_zero]
   refine wpAny_two (i:=6) (j:=8) (by kernel_rfl) ?_ ?_
   ·skip
    refine op_valg (i:=6) (v:=.pointer (some ⟨n,0,none⟩)) (w':=wD) rfl (by kernel_rfl) (by kernel_rfl) ?_
    simp only [List.getElem_toArray,List.getElem_cons_zero,List.getElem_cons_succ,Act.put,List.setIfInBounds_toArray,List.set_cons_succ,List.set_cons_zero]
    refine wpAny_two (i:=7) (j:=8) (by kernel_rfl) ?_ ?_
    ·skip
     refine op_valg (i:=7) rfl (by kernel_rfl) (run_rowload (b:=n) (off:=0) (n:=12) (d:=d38) rfl rfl cD hd38 hr38 act_info (by omega)) ?_
     rw [hfix]
     simp only [List.getElem_toArray,List.getElem_cons_zero,List.getElem_cons_succ,Act.put,List.setIfInBounds_toArray,List.set_cons_succ,List.set_cons_zero]
     refine wpAny_one (i:=8) (by kernel_rfl) ?_
     refine op_callg (i:=8) (f:=15) (args:=#[]) rfl (by kernel_rfl) (run_callf rfl Tryz.func15 name15 body15 (by simp)) ((fixed_any hwD).mono ?_)
     rintro e w3 ⟨fs,rfl,hfs,hb3⟩
     obtain rfl:fs=fixV.toArray:=by rw [← hfs]
     refine ⟨_,rfl,?_⟩
     simp only [List.getElem_toArray,List.getElem_cons_zero,List.getElem_cons_succ,Act.put,List.setIfInBounds_toArray,List.set_cons_succ,List.set_cons_zero]
     refine wpAny_one (i:=9) (by kernel_rfl) ?_
     refine op_valg (i:=9) (v:=.bool true) (w':=w3) rfl (by kernel_rfl) (by kernel_rfl) ?_
     simp only [List.getElem_toArray,List.getElem_cons_zero,List.getElem_cons_succ,Act.put,List.setIfInBounds_toArray,List.set_cons_succ,List.set_cons_zero]
     refine wpAny_one (i:=10) (by kernel_rfl) ?_
     refine op_valg (i:=10) (v:=.bool true) (w':=w3) rfl (by kernel_rfl) (by kernel_rfl) ?_
     simp only [List.getElem_toArray,List.getElem_cons_zero,List.getElem_cons_succ,Act.put,List.setIfInBounds_toArray,List.set_cons_succ,List.set_cons_zero]
     refine wpAny_one (i:=11) (by kernel_rfl) ?_
     refine op_valg (i:=11) (v:=.bool true) (w':=w3) rfl (by kernel_rfl) (by kernel_rfl) ?_
     simp only [List.getElem_toArray,List.getElem_cons_zero,List.getElem_cons_succ,Act.put,List.setIfInBounds_toArray,List.set_cons_succ,List.set_cons_zero]
     refine wpAny_one (i:=12) (by kernel_rfl) ?_
     refine op_valg (i:=12) (v:=i64 40) (w':=w3) rfl (by kernel_rfl) (by kernel_rfl) ?_
     simp only [List.getElem_toArray,List.getElem_cons_zero,List.getElem_cons_succ,Act.put,List.setIfInBounds_toArray,List.set_cons_succ,List.set_cons_zero]
     refine wpAny_one (i:=13) (by kernel_rfl) ?_
     refine op_valg (i:=13) (v:=.bool true) (w':=w3) rfl (by kernel_rfl) (by kernel_rfl) ?_
     simp only [List.getElem_toArray,List.getElem_cons_zero,List.getElem_cons_succ,Act.put,List.setIfInBounds_toArray,List.set_cons_succ,List.set_cons_zero]
     refine wpAny_one (i:=14) (by kernel_rfl) ?_
     refine op_valg (i:=14) (v:=.bool true) (w':=w3) rfl (by kernel_rfl) (by kernel_rfl) ?_
     simp only [List.getElem_toArray,List.getElem_cons_zero,List.getElem_cons_succ,Act.put,List.setIfInBounds_toArray,List.set_cons_succ,List.set_cons_zero]
     refine wpAny_one (i:=15) (by kernel_rfl) ?_
     refine op_valg (i:=15) (v:=.bool true) (w':=w3) rfl (by kernel_rfl) (by kernel_rfl) ?_
     simp only [List.getElem_toArray,List.getElem_cons_zero,List.getElem_cons_succ,Act.put,List.setIfInBounds_toArray,List.set_cons_succ,List.set_cons_zero]
     refine wpAny_end (by kernel_rfl) ?_
     refine hK3 _ _ ?_
     gi_wp2
     go_ret
     exact ⟨rfl,fin _ hb3⟩
    ·skip
     refine op_callg (i:=8) (f:=15) (args:=#[]) rfl (by kernel_rfl) (run_callf rfl Tryz.func15 name15 body15 (by simp)) ((fixed_any hwD).mono ?_)
     rintro e w3 ⟨fs,rfl,hfs,hb3⟩
     obtain rfl:fs=fixV.toArray:=by rw [← hfs]
     refine ⟨_,rfl,?_⟩
     simp only [List.getElem_toArray,List.getElem_cons_zero,List.getElem_cons_succ,Act.put,List.setIfInBounds_toArray,List.set_cons_succ,List.set_cons_zero]
     refine wpAny_one (i:=7) (by kernel_rfl) ?_
     refine op_valg (i:=7) rfl (by kernel_rfl) (run_rowload (b:=n) (off:=0) (n:=12) (d:=d38) rfl rfl ((hb3.block _ hnD).trans cD) hd38 hr38 act_info (by omega)) ?_
     rw [hfix]
     simp only [List.getElem_toArray,List.getElem_cons_zero,List.getElem_cons_succ,Act.put,List.setIfInBounds_toArray,List.set_cons_succ,List.set_cons_zero]
     refine wpAny_one (i:=9) (by kernel_rfl) ?_
     refine op_valg (i:=9) (v:=.bool true) (w':=w3) rfl (by kernel_rfl) (by kernel_rfl) ?_
     simp only [List.getElem_toArray,List.getElem_cons_zero,List.getElem_cons_succ,Act.put,List.setIfInBounds_toArray,List.set_cons_succ,List.set_cons_zero]
     refine wpAny_one (i:=10) (by kernel_rfl) ?_
     refine op_valg (i:=10) (v:=.bool true) (w':=w3) rfl (by kernel_rfl) (by kernel_rfl) ?_
     simp only [List.getElem_toArray,List.getElem_cons_zero,List.getElem_cons_succ,Act.put,List.setIfInBounds_toArray,List.set_cons_succ,List.set_cons_zero]
     refine wpAny_one (i:=11) (by kernel_rfl) ?_
     refine op_valg (i:=11) (v:=.bool true) (w':=w3) rfl (by kernel_rfl) (by kernel_rfl) ?_
     simp only [List.getElem_toArray,List.getElem_cons_zero,List.getElem_cons_succ,Act.put,List.setIfInBounds_toArray,List.set_cons_succ,List.set_cons_zero]
     refine wpAny_one (i:=12) (by kernel_rfl) ?_
     refine op_valg (i:=12) (v:=i64 40) (w':=w3) rfl (by kernel_rfl) (by kernel_rfl) ?_
     simp only [List.getElem_toArray,List.getElem_cons_zero,List.getElem_cons_succ,Act.put,List.setIfInBounds_toArray,List.set_cons_succ,List.set_cons_zero]
     refine wpAny_one (i:=13) (by kernel_rfl) ?_
     refine op_valg (i:=13) (v:=.bool true) (w':=w3) rfl (by kernel_rfl) (by kernel_rfl) ?_
     simp only [List.getElem_toArray,List.getElem_cons_zero,List.getElem_cons_succ,Act.put,List.setIfInBounds_toArray,List.set_cons_succ,List.set_cons_zero]
     refine wpAny_one (i:=14) (by kernel_rfl) ?_
     refine op_valg (i:=14) (v:=.bool true) (w':=w3) rfl (by kernel_rfl) (by kernel_rfl) ?_
     simp only [List.getElem_toArray,List.getElem_cons_zero,List.getElem_cons_succ,Act.put,List.setIfInBounds_toArray,List.set_cons_succ,List.set_cons_zero]
     refine wpAny_one (i:=15) (by kernel_rfl) ?_
     refine op_valg (i:=15) (v:=.bool true) (w':=w3) rfl (by kernel_rfl) (by kernel_rfl) ?_
     simp only [List.getElem_toArray,List.getElem_cons_zero,List.getElem_cons_succ,Act.put,List.setIfInBounds_toArray,List.set_cons_succ,List.set_cons_zero]
     refine wpAny_end (by kernel_rfl) ?_
     refine hK3 _ _ ?_
     gi_wp2
     go_ret
     exact ⟨rfl,fin _ hb3⟩
   ·skip
    refine op_callg (i:=8) (f:=15) (args:=#[]) rfl (by kernel_rfl) (run_callf rfl Tryz.func15 name15 body15 (by simp)) ((fixed_any hwD).mono ?_)
    rintro e w3 ⟨fs,rfl,hfs,hb3⟩
    obtain rfl:fs=fixV.toArray:=by rw [← hfs]
    refine ⟨_,rfl,?_⟩
    simp only [List.getElem_toArray,List.getElem_cons_zero,List.getElem_cons_succ,Act.put,List.setIfInBounds_toArray,List.set_cons_succ,List.set_cons_zero]
    refine wpAny_one (i:=6) (by kernel_rfl) ?_
    refine op_valg (i:=6) (v:=.pointer (some ⟨n,0,none⟩)) (w':=w3) rfl (by kernel_rfl) (by kernel_rfl) ?_
    simp only [List.getElem_toArray,List.getElem_cons_zero,List.getElem_cons_succ,Act.put,List.setIfInBounds_toArray,List.set_cons_succ,List.set_cons_zero]
    refine wpAny_one (i:=7) (by kernel_rfl) ?_
    refine op_valg (i:=7) rfl (by kernel_rfl) (run_rowload (b:=n) (off:=0) (n:=12) (d:=d38) rfl rfl ((hb3.block _ hnD).trans cD) hd38 hr38 act_info (by omega)) ?_
    rw [hfix]
    simp only [List.getElem_toArray,List.getElem_cons_zero,List.getElem_cons_succ,Act.put,List.setIfInBounds_toArray,List.set_cons_succ,List.set_cons_zero]
    refine wpAny_one (i:=9) (by kernel_rfl) ?_
    refine op_valg (i:=9) (v:=.bool true) (w':=w3) rfl (by kernel_rfl) (by kernel_rfl) ?_
    simp only [List.getElem_toArray,List.getElem_cons_zero,List.getElem_cons_succ,Act.put,List.setIfInBounds_toArray,List.set_cons_succ,List.set_cons_zero]
    refine wpAny_one (i:=10) (by kernel_rfl) ?_
    refine op_valg (i:=10) (v:=.bool true) (w':=w3) rfl (by kernel_rfl) (by kernel_rfl) ?_
    simp only [List.getElem_toArray,List.getElem_cons_zero,List.getElem_cons_succ,Act.put,List.setIfInBounds_toArray,List.set_cons_succ,List.set_cons_zero]
    refine wpAny_one (i:=11) (by kernel_rfl) ?_
    refine op_valg (i:=11) (v:=.bool true) (w':=w3) rfl (by kernel_rfl) (by kernel_rfl) ?_
    simp only [List.getElem_toArray,List.getElem_cons_zero,List.getElem_cons_succ,Act.put,List.setIfInBounds_toArray,List.set_cons_succ,List.set_cons_zero]
    refine wpAny_one (i:=12) (by kernel_rfl) ?_
    refine op_valg (i:=12) (v:=i64 40) (w':=w3) rfl (by kernel_rfl) (by kernel_rfl) ?_
    simp only [List.getElem_toArray,List.getElem_cons_zero,List.getElem_cons_succ,Act.put,List.setIfInBounds_toArray,List.set_cons_succ,List.set_cons_zero]
    refine wpAny_one (i:=13) (by kernel_rfl) ?_
    refine op_valg (i:=13) (v:=.bool true) (w':=w3) rfl (by kernel_rfl) (by kernel_rfl) ?_
    simp only [List.getElem_toArray,List.getElem_cons_zero,List.getElem_cons_succ,Act.put,List.setIfInBounds_toArray,List.set_cons_succ,List.set_cons_zero]
    refine wpAny_one (i:=14) (by kernel_rfl) ?_
    refine op_valg (i:=14) (v:=.bool true) (w':=w3) rfl (by kernel_rfl) (by kernel_rfl) ?_
    simp only [List.getElem_toArray,List.getElem_cons_zero,List.getElem_cons_succ,Act.put,List.setIfInBounds_toArray,List.set_cons_succ,List.set_cons_zero]
    refine wpAny_one (i:=15) (by kernel_rfl) ?_
    refine op_valg (i:=15) (v:=.bool true) (w':=w3) rfl (by kernel_rfl) (by kernel_rfl) ?_
    simp only [List.getElem_toArray,List.getElem_cons_zero,List.getElem_cons_succ,Act.put,List.setIfInBounds_toArray,List.set_cons_succ,List.set_cons_zero]
    refine wpAny_end (by kernel_rfl) ?_
    refine hK3 _ _ ?_
    gi_wp2
    go_ret
    exact ⟨rfl,fin _ hb3⟩
  ·skip
   refine op_callg (i:=8) (f:=15) (args:=#[]) rfl (by kernel_rfl) (run_callf rfl Tryz.func15 name15 body15 (by simp)) ((fixed_any hwD).mono ?_)
   rintro e w3 ⟨fs,rfl,hfs,hb3⟩
   obtain rfl:fs=fixV.toArray:=by rw [← hfs]
   refine ⟨_,rfl,?_⟩
   simp only [List.getElem_toArray,List.getElem_cons_zero,List.getElem_cons_succ,Act.put,List.setIfInBounds_toArray,List.set_cons_succ,List.set_cons_zero]
   refine wpAny_one (i:=5) (by kernel_rfl) ?_
   refine op_valg (i:=5) (v:=.pointer (some ⟨n,0,none⟩)) (w':=w3) rfl (by kernel_rfl) (by kernel_rfl) ?_
   simp only [List.getElem_toArray,List.getElem_cons_zero,List.getElem_cons_succ,Act.put,List.setIfInBounds_toArray,List.set_cons_succ,List.set_cons_zero]
   refine wpAny_one (i:=6) (by kernel_rfl) ?_
   refine op_valg (i:=6) (v:=.pointer (some ⟨n,0,none⟩)) (w':=w3) rfl (by kernel_rfl) (by kernel_rfl) ?_
   simp only [List.getElem_toArray,List.getElem_cons_zero,List.getElem_cons_succ,Act.put,List.setIfInBounds_toArray,List.set_cons_succ,List.set_cons_zero]
   refine wpAny_one (i:=7) (by kernel_rfl) ?_
   refine op_valg (i:=7) rfl (by kernel_rfl) (run_rowload (b:=n) (off:=0) (n:=12) (d:=d38) rfl rfl ((hb3.block _ hnD).trans cD) hd38 hr38 act_info (by omega)) ?_
   rw [hfix]
   simp only [List.getElem_toArray,List.getElem_cons_zero,List.getElem_cons_succ,Act.put,List.setIfInBounds_toArray,List.set_cons_succ,List.set_cons_zero]
   refine wpAny_one (i:=9) (by kernel_rfl) ?_
   refine op_valg (i:=9) (v:=.bool true) (w':=w3) rfl (by kernel_rfl) (by kernel_rfl) ?_
   simp only [List.getElem_toArray,List.getElem_cons_zero,List.getElem_cons_succ,Act.put,List.setIfInBounds_toArray,List.set_cons_succ,List.set_cons_zero]
   refine wpAny_one (i:=10) (by kernel_rfl) ?_
   refine op_valg (i:=10) (v:=.bool true) (w':=w3) rfl (by kernel_rfl) (by kernel_rfl) ?_
   simp only [List.getElem_toArray,List.getElem_cons_zero,List.getElem_cons_succ,Act.put,List.setIfInBounds_toArray,List.set_cons_succ,List.set_cons_zero]
   refine wpAny_one (i:=11) (by kernel_rfl) ?_
   refine op_valg (i:=11) (v:=.bool true) (w':=w3) rfl (by kernel_rfl) (by kernel_rfl) ?_
   simp only [List.getElem_toArray,List.getElem_cons_zero,List.getElem_cons_succ,Act.put,List.setIfInBounds_toArray,List.set_cons_succ,List.set_cons_zero]
   refine wpAny_one (i:=12) (by kernel_rfl) ?_
   refine op_valg (i:=12) (v:=i64 40) (w':=w3) rfl (by kernel_rfl) (by kernel_rfl) ?_
   simp only [List.getElem_toArray,List.getElem_cons_zero,List.getElem_cons_succ,Act.put,List.setIfInBounds_toArray,List.set_cons_succ,List.set_cons_zero]
   refine wpAny_one (i:=13) (by kernel_rfl) ?_
   refine op_valg (i:=13) (v:=.bool true) (w':=w3) rfl (by kernel_rfl) (by kernel_rfl) ?_
   simp only [List.getElem_toArray,List.getElem_cons_zero,List.getElem_cons_succ,Act.put,List.setIfInBounds_toArray,List.set_cons_succ,List.set_cons_zero]
   refine wpAny_one (i:=14) (by kernel_rfl) ?_
   refine op_valg (i:=14) (v:=.bool true) (w':=w3) rfl (by kernel_rfl) (by kernel_rfl) ?_
   simp only [List.getElem_toArray,List.getElem_cons_zero,List.getElem_cons_succ,Act.put,List.setIfInBounds_toArray,List.set_cons_succ,List.set_cons_zero]
   refine wpAny_one (i:=15) (by kernel_rfl) ?_
   refine op_valg (i:=15) (v:=.bool true) (w':=w3) rfl (by kernel_rfl) (by kernel_rfl) ?_
   simp only [List.getElem_toArray,List.getElem_cons_zero,List.getElem_cons_succ,Act.put,List.setIfInBounds_toArray,List.set_cons_succ,List.set_cons_zero]
   refine wpAny_end (by kernel_rfl) ?_
   refine hK3 _ _ ?_
   gi_wp2
   go_ret
   exact ⟨rfl,fin _ hb3⟩
 ·skip
  refine op_callg (i:=8) (f:=15) (args:=#[]) rfl (by kernel_rfl) (run_callf rfl Tryz.func15 name15 body15 (by simp)) ((fixed_any hwD).mono ?_)
  rintro e w3 ⟨fs,rfl,hfs,hb3⟩
  obtain rfl:fs=fixV.toArray:=by rw [← hfs]
  refine ⟨_,rfl,?_⟩
  simp only [List.getElem_toArray,List.getElem_cons_zero,List.getElem_cons_succ,Act.put,List.setIfInBounds_toArray,List.set_cons_succ,List.set_cons_zero]
  refine wpAny_one (i:=4) (by kernel_rfl) ?_
  refine op_valg (i:=4) (v:=.slice (some ⟨n,0,none⟩) 1 c) (w':=w3) rfl (by kernel_rfl) (by kernel_rfl) ?_
  simp only [List.getElem_toArray,List.getElem_cons_zero,List.getElem_cons_succ,Act.put,List.setIfInBounds_toArray,List.set_cons_succ,List.set_cons_zero]
  refine wpAny_one (i:=5) (by kernel_rfl) ?_
  refine op_valg (i:=5) (v:=.pointer (some ⟨n,0,none⟩)) (w':=w3) rfl (by kernel_rfl) (by kernel_rfl) ?_
  simp only [List.getElem_toArray,List.getElem_cons_zero,List.getElem_cons_succ,Act.put,List.setIfInBounds_toArray,List.set_cons_succ,List.set_cons_zero]
  refine wpAny_one (i:=6) (by kernel_rfl) ?_
  refine op_valg (i:=6) (v:=.pointer (some ⟨n,0,none⟩)) (w':=w3) rfl (by kernel_rfl) (by kernel_rfl) ?_
  simp only [List.getElem_toArray,List.getElem_cons_zero,List.getElem_cons_succ,Act.put,List.setIfInBounds_toArray,List.set_cons_succ,List.set_cons_zero]
  refine wpAny_one (i:=7) (by kernel_rfl) ?_
  refine op_valg (i:=7) rfl (by kernel_rfl) (run_rowload (b:=n) (off:=0) (n:=12) (d:=d38) rfl rfl ((hb3.block _ hnD).trans cD) hd38 hr38 act_info (by omega)) ?_
  rw [hfix]
  simp only [List.getElem_toArray,List.getElem_cons_zero,List.getElem_cons_succ,Act.put,List.setIfInBounds_toArray,List.set_cons_succ,List.set_cons_zero]
  refine wpAny_one (i:=9) (by kernel_rfl) ?_
  refine op_valg (i:=9) (v:=.bool true) (w':=w3) rfl (by kernel_rfl) (by kernel_rfl) ?_
  simp only [List.getElem_toArray,List.getElem_cons_zero,List.getElem_cons_succ,Act.put,List.setIfInBounds_toArray,List.set_cons_succ,List.set_cons_zero]
  refine wpAny_one (i:=10) (by kernel_rfl) ?_
  refine op_valg (i:=10) (v:=.bool true) (w':=w3) rfl (by kernel_rfl) (by kernel_rfl) ?_
  simp only [List.getElem_toArray,List.getElem_cons_zero,List.getElem_cons_succ,Act.put,List.setIfInBounds_toArray,List.set_cons_succ,List.set_cons_zero]
  refine wpAny_one (i:=11) (by kernel_rfl) ?_
  refine op_valg (i:=11) (v:=.bool true) (w':=w3) rfl (by kernel_rfl) (by kernel_rfl) ?_
  simp only [List.getElem_toArray,List.getElem_cons_zero,List.getElem_cons_succ,Act.put,List.setIfInBounds_toArray,List.set_cons_succ,List.set_cons_zero]
  refine wpAny_one (i:=12) (by kernel_rfl) ?_
  refine op_valg (i:=12) (v:=i64 40) (w':=w3) rfl (by kernel_rfl) (by kernel_rfl) ?_
  simp only [List.getElem_toArray,List.getElem_cons_zero,List.getElem_cons_succ,Act.put,List.setIfInBounds_toArray,List.set_cons_succ,List.set_cons_zero]
  refine wpAny_one (i:=13) (by kernel_rfl) ?_
  refine op_valg (i:=13) (v:=.bool true) (w':=w3) rfl (by kernel_rfl) (by kernel_rfl) ?_
  simp only [List.getElem_toArray,List.getElem_cons_zero,List.getElem_cons_succ,Act.put,List.setIfInBounds_toArray,List.set_cons_succ,List.set_cons_zero]
  refine wpAny_one (i:=14) (by kernel_rfl) ?_
  refine op_valg (i:=14) (v:=.bool true) (w':=w3) rfl (by kernel_rfl) (by kernel_rfl) ?_
  simp only [List.getElem_toArray,List.getElem_cons_zero,List.getElem_cons_succ,Act.put,List.setIfInBounds_toArray,List.set_cons_succ,List.set_cons_zero]
  refine wpAny_one (i:=15) (by kernel_rfl) ?_
  refine op_valg (i:=15) (v:=.bool true) (w':=w3) rfl (by kernel_rfl) (by kernel_rfl) ?_
  simp only [List.getElem_toArray,List.getElem_cons_zero,List.getElem_cons_succ,Act.put,List.setIfInBounds_toArray,List.set_cons_succ,List.set_cons_zero]
  refine wpAny_end (by kernel_rfl) ?_
  refine hK3 _ _ ?_
  gi_wp2
  go_ret
  exact ⟨rfl,fin _ hb3⟩
end SE
end
section
namespace SE
open Go.RowKit
set_option maxHeartbeats 0
def siteT (a b c:Int):List (Nat×Int×Int):=upd (upd (upd coreSt.tab 231 (a,a)) 232 (b,b)) 233 (c,c)
def siteS (a b c:Int):SE.St:={ coreSt with tab:=siteT a b c }
def cellsN:List Nat→List SV
 | []=>[]
 | s::l=>N (Int.ofNat s)::cellsN l
def rowQ:List Nat→List (Nat×Blk)
 | []=>[]
 | l=>[(2000050,.row 3 1 2000051 (cellsN l))]
def slsQ:List Nat→List (Nat×SlI)
 | []=>[]
 | l=>[(2000051,.row 2000050 l.length)]
def valQ:List Nat→SV
 | []=>.nils
 | _=>.sl 2000051
def roQ (a:Int) (i:Nat):SV:=bif decide (a=1) then A i else I64
def siteO (a b c:Int) (l:List Nat):SV×SE.St :=
 (.agg ([A 200,I64,A 201,I64]++rep 15 I64++[valQ l]++[.bool,.cmp .ne 231 0,.cmp .ne 232 0,.cmp .ne 233 0,.tt]++[I64,roQ a 234,roQ b 235,roQ c 236,I64]++[.bool]),
  { heap:=rowQ l++(2000005,.opq)::del (upd coreHeap 3 (.cells 158 [.sl 2000030,A 148,C64])) 5
    tab:=upd (upd (upd (siteT a b c) 237 (bitR l 1)) 238 (bitR l 2)) 239 (bitR l 3)
    sls:=slsQ l++(2000030,.own 2000005 1 [U 0 3,A 237,A 238,A 239,A 148])::del coreSls 30
    nid:=2000400
    facts:=srtF l++coreFacts })
def siteM (a b c:Int):Sm:=⟨siteS a b c,[.ptr 1 0],allSeqs.map (siteO a b c)⟩
noncomputable def siteR (a b c:Int):Bool:=coreR kCore1 20 (siteM a b c)
end SE
end
section
namespace SE
set_option maxHeartbeats 0
theorem site_000:siteR 0 0 0=true:=by decide +kernel
theorem site_001:siteR 0 0 1=true:=by decide +kernel
theorem site_010:siteR 0 1 0=true:=by decide +kernel
theorem site_011:siteR 0 1 1=true:=by decide +kernel
end SE
end
end Go.Proofs.YtdgejnakakjgfaaGreatDoor
