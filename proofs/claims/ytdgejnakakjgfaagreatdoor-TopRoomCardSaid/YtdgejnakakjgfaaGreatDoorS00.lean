/- A step of the machine. A new machine: dead, or one in which nothing happened. What New answers. What New answers: the machine's invariant. A machine without a core: a step; the run of the zero policy. A machine, dead or alive: a step keeps its bounds. Regions in any order, by hand: rules of an operation. A machine of a policy that was made one that may be. What comes in: the cells of structures, the elements of slices. What comes in: events. -/
import Derived.Test.YtdgejnakakjgfaaGreatDoorR34
import Derived.Test.YtdgejnakakjgfaaGreatDoorR18
import Derived.Test.YtdgejnakakjgfaaGreatDoorR33
import Derived.Test.YtdgejnakakjgfaaGreatDoorR07
import Derived.RangeFuncLeaves
import Derived.ChangeReads
import Derived.KernelRfl
import Derived.OpenShut
import Derived.Deep.Slices
set_option linter.unusedVariables false
set_option linter.unusedSimpArgs false
set_option maxRecDepth 100000
namespace Go.Proofs.YtdgejnakakjgfaaGreatDoor
section
namespace Mc
open Go.RowKit Go.Shelf
open SE (Rc rcCells i64)
open Crc Fr St
attribute [local go_sem] Oper.semAt_some
set_option maxHeartbeats 4000000
variable {δ:Type} {K:δ→Foot→World→Prop} {mo:Int} {RB:Nat→δ→δ→List Rc→Prop} {RS RT:δ→δ→List Rc→Prop} {RH:Bool→δ→δ→List Rc→Prop} {Bc:Nat}
theorem comes_fn (M:Nat) (k s x1 x2 x3 x4:Int) (B:Option Addr) (n c:Nat) (v g b:Bool) (w:World) :
  Calls Tryz.prog 19 #[.pointer (some ⟨M,0,none⟩),.agg #[i64 k,i64 s,.slice B n c,.bool v,i64 x1,i64 x2,i64 x3,i64 x4,.bool g,.bool b]] w fun e w' =>
   e=.returned (.func (.func 31) #[] #[.pointer (some ⟨w.heap.size+1,0,none⟩),.pointer (some ⟨w.heap.size,0,none⟩)]) ∧
    w'=(w.alloc (.cells #[.pointer (some ⟨M,0,none⟩)] 31)).alloc (.cells #[i64 k,i64 s,.slice B n c,.bool v,i64 x1,i64 x2,i64 x3,i64 x4,.bool g,.bool b] 48):=by
 go_enter Tryz.func19,Tryz.ntmps19
 go_wp2
 go_ret
 exact ⟨rfl,rfl⟩
structure MInv (K:δ→Foot→World→Prop) (Bc M:Nat) (d:δ) (MO:Foot) (w:World):Prop where
 ex:∃ (O:Foot) (g:Nat→Nat),K d O w∧w.cell? ⟨M,0,none⟩=some (.pointer (some ⟨Bc,0,none⟩))∧¬ O M∧(∀ l,1≤l→l≤3→w.cell? ⟨M,l+1,none⟩=some (.pointer (some ⟨g l,0,none⟩)))∧Strs g O (fun n=>n=M) w ∧
  (∀ n,O n→MO n)∧MO M∧∀ l,1≤l→l≤3→∀ n,SFoot w (g l) n→MO n
 lt:∀ n,MO n→n<w.heap.size
structure ToldR (mo:Int) (w:World) (t:Value) (rs:List Rc):Prop where
 ex:∃ (cs:Array Value) (v12:Value) (rb:Option Addr) (rl rc:Nat),t=.agg cs∧cs.size=46∧(∀ v∈cs.toList,v.oneCell'=true)∧ActOk mo cs∧cs[12]?=some v12∧cs[13]?=some (.slice rb rl rc)∧rl=rs.length∧Reads w w.heap.size 6 rb rl (rcCells rs)∧∀ r∈rs,0≤r.src∧r.src≤4
theorem Strs.keep {g:Nat→Nat} {O A O' A':Foot} {w w':World} (h:Strs g O A w) (hsz:w.heap.size≤w'.heap.size) (hs:∀ l,1≤l→l≤3→∀ n,SFoot w (g l) n→w'.heap[n]?=w.heap[n]?)
  (hO:∀ n,O' n→O n∨w.heap.size≤n) (hA:∀ n,A' n→A n∨w.heap.size≤n):Strs g O' A' w':=by
 refine ⟨fun l a b=>?_,fun l a b n hn=>?_⟩
 ·obtain ⟨n0,rest,hst,hl⟩:=h.str l a b
  exact ⟨n0,rest,strm_keep hst hsz (hs l a b),hl⟩
 ·have hn':=sfoot_same (hs l a b _ (.inl rfl)) hn
  obtain ⟨n0,rest,hst,_⟩:=h.str l a b
  have hlt:=sfoot_lt hst hn'
  have hf:=h.far l a b n hn'
  refine ⟨fun q=>?_,fun q=>?_,hf.2.2⟩
  ·rcases hO n q with q | q
   ·exact hf.1 q
   ·omega
  ·rcases hA n q with q | q
   ·exact hf.2.1 q
   ·omega
theorem alloc_same (w:World) (o:Obj):∀ n,n<w.heap.size→(w.alloc o).heap[n]?=w.heap[n]?:=fun n hn=>Below.heap_alloc w o n hn
theorem alloc_size (w:World) (o:Obj):(w.alloc o).heap.size=w.heap.size+1:=by show (w.heap.push o).size=_; rw [Array.size_push]
theorem results_cell {fn:Func} {b t:Nat} (h:fn.results=#[.cell b t]) {tmps:Array Value} {P:Program} {w:World} {a:Addr} {v:Value} (ha:tmps.getD b undef=.pointer (some a)) (hl:(loadVar t a).run P w=.ok v w):(results fn tmps).run P w=.ok v w:=by
 unfold results
 rw [h]
 simp only [Array.getD_eq_getD_getElem?] at ha
 simp [Sem.run_bind,ha,asAddr,hl,Result.andThen]
theorem own_reads {w:World} {base e size n:Nat} {v:Value} {xs:List Value} (h:w.ownsRow base e size v n xs):∃ A c,v=.slice A n c∧Reads w w.heap.size size A n xs∧∀ x,A=some x→base≤x.block:=by
 rcases h.2 with ⟨rfl,h0⟩ | ⟨g,cap,cur,rfl,hb,hh,_⟩
 ·subst h0
  exact ⟨none,0,rfl,Reads.of_own h,fun x hx=>by cases hx⟩
 ·exact ⟨_,_,rfl,Reads.of_own h,fun x hx=>by cases hx; exact hb⟩
theorem step_ok (hC:CoreI Bc K mo RB RS RT RH) {M:Nat} {w:World} {d:δ} {MO:Foot}
  (hRB0:∀ l d,RB l d d []) (hRBt:∀ l d1 d2 d3 r1 r2,RB l d1 d2 r1→RB l d2 d3 r2→RB l d1 d3 (r1++r2))
  {k s x1 x2 x3 x4:Int} {B:Option Addr} {n c:Nat} {v gv b:Bool} {x:List UInt8}
  (hI:MInv K Bc M d MO w) (hx:∀ x∈[x1,x2,x3,x4],-9223372036854775808≤x∧x≤9223372036854775807) (hrd:Reads w w.heap.size 1 B n (x.map bv)) (hn:n≤120) (hB:∀ x,B=some x→¬ MO x.block) :
  CallsIn Fence.wide 3 Tryz.prog 10 #[.pointer (some ⟨M,0,none⟩),.agg #[i64 k,i64 s,.slice B n c,.bool v,i64 x1,i64 x2,i64 x3,i64 x4,.bool gv,.bool b]] w fun e w' =>
   ∃ d' t rs,∃ MO':Foot,e=.returned t∧MInv K Bc M d' MO' w'∧(∀ n,MO' n→grow MO w w' n)∧Frm MO w w'∧ToldR mo w' t rs∧rs.length≤8000∧EvR RB RS RT RH k s b d d' rs∧∀ cs x n c,t=.agg cs→cs[13]?=some (.slice (some x) n c)→¬ MO' x.block:=by
 obtain ⟨⟨O,g,hK,hM0,hOM,hMg,hS,hOm,hMm,hSm⟩,hMlt⟩:=hI
 have hlt:M<w.heap.size:=hMlt M hMm
 have hOlt:=fun n hn=>hC.lt _ _ _ n hK hn
 obtain ⟨wA,hwA⟩:∃ wA,wA=(w.alloc (.cells #[i64 k,i64 s,.slice B n c,.bool v,i64 x1,i64 x2,i64 x3,i64 x4,.bool gv,.bool b] 48)):=⟨_,rfl⟩
 have hKA:∀ o,K d O (wA.alloc o):=fun o=>hC.keep _ _ _ _ hK ⟨by rw [alloc_size,hwA,alloc_size]; omega,fun n hn=>by
  have:=hOlt n hn
  rw [alloc_same _ _ n (by rw [hwA,alloc_size]; omega),hwA,alloc_same _ _ n this],by rw [hwA]; rfl,by rw [hwA]; rfl,by rw [hwA]; rfl⟩
 refine callsIn_of_wp_marks Tryz.func10 rfl trivial ?_ rfl
 simp only [Tryz.ntmps10,List.size_toArray,List.length_cons,List.length_nil,Nat.reduceAdd,Nat.reduceSub,Array.replicate_succ,Array.replicate_zero,List.push_toArray,List.append_toArray,List.nil_append,List.cons_append]
 gi_wp2
 rename_i K1 hK1 K2 hK2
 refine ⟨trivial,?_⟩
 rw [← hwA]
 refine (callsIn_wide.2 (hC.now d O _ (hKA _))).mono ?_
 rintro e w1 ⟨⟨d',t0,rs0,rfl,hKt,hFt,hTo,rfl,rfl⟩,ts,hts,ht12,ht13⟩
 cases hts
 generalize hwB:wA.alloc _=wB at hKt hFt hTo
 have hzB:∃ zs:Array Value,wB.heap[w.heap.size+1]?=some (.cells zs 43 (0,0))∧zs.size=46:=by
  have:w.heap.size+1=wA.heap.size:=by rw [hwA,alloc_size]
  rw [← hwB,this]
  exact ⟨_,heap_alloc_new wA _,rfl⟩
 have hsA:wA.heap.size=w.heap.size+1:=by rw [hwA,alloc_size]
 have hsB:wB.heap.size=w.heap.size+2:=by rw [← hwB,alloc_size,hsA]
 have kA:∀ n,n<w.heap.size→wB.heap[n]?=w.heap[n]?:=fun n hn=>by rw [← hwB,alloc_same _ _ n (by omega),hwA,alloc_same _ _ n hn]
 have hevB:wB.heap[w.heap.size]?=some (.cells #[i64 k,i64 s,.slice B n c,.bool v,i64 x1,i64 x2,i64 x3,i64 x4,.bool gv,.bool b] 48 (0,0)):=by
  rw [← hwB,alloc_same _ _ _ (by omega),hwA]
  exact heap_alloc_new w _
 obtain ⟨zs,hzB,hzs46⟩:=hzB
 obtain ⟨cs',sb,sl,sc,rb,rl,rcp,ss,hcs',ht2,ht3,ht4,_⟩:=hTo.ex
 cases hcs'
 obtain ⟨i43,z43,hi43,hz43,hzs⟩:=told_zero
 have z1:=hFt.size
 refine hK2 _ _ ?_
 refine in_alloc rfl rfl hi43 hz43 ?_
 simp only [Act.put,List.setIfInBounds_toArray,List.set_cons_succ,List.set_cons_zero]
 have hnew:(w1.alloc (.cells z43.cells 43)).heap[w1.heap.size]?=some (.cells z43.cells 43 (0,0)):=heap_alloc_new w1 _
 refine in_store (b:=w1.heap.size) (off:=0) (xs:=ts) (v:=.agg ts) rfl rfl rfl rfl rfl ht3 (by rw [ht2]; exact told_info) hnew (by omega) fun w2 hw2=>?_
 simp only [Act.put,List.setIfInBounds_toArray,List.set_cons_succ,List.set_cons_zero]
 refine wpListIn_nil ?_
 have c2:w2.heap[w1.heap.size]?=some (.cells ts 43 (0,0)):=by
  have:=hw2.cell
  have e:spl z43.cells.toList 0 ts.toList=ts.toList:=by
   unfold spl
   rw [List.take_zero,List.nil_append,List.drop_eq_nil_of_le (by rw [Array.length_toList,Array.length_toList]; omega),List.append_nil]
  rw [e] at this
  exact this
 have k2:∀ n,n<w1.heap.size→w2.heap[n]?=w1.heap[n]?:=fun n hn=>(hw2.same n (by omega)).trans (alloc_same w1 _ n hn)
 have z2:w2.heap.size=w1.heap.size+1:=by rw [hw2.size,alloc_size]
 have hOB:∀ n,O n→n<w.heap.size:=hOlt
 have k12:∀ n,n<wB.heap.size→¬ O n→w2.heap[n]?=wB.heap[n]?:=fun n hn ho=>(k2 n (by omega)).trans (hFt.same n hn ho)
 have hev2:w2.heap[w.heap.size]?=some (.cells #[i64 k,i64 s,.slice B n c,.bool v,i64 x1,i64 x2,i64 x3,i64 x4,.bool gv,.bool b] 48 (0,0)):=(k12 _ (by omega) (fun h=>by have:=hOlt _ h; omega)).trans hevB
 have hz2:w2.heap[w.heap.size+1]?=some (.cells zs 43 (0,0)):=(k12 _ (by omega) (fun h=>by have:=hOlt _ h; omega)).trans hzB
 have e0:w2.cell? ⟨w.heap.size,0,none⟩=some (i64 k):=by rw [SE.cell_at hev2]; rfl
 have e1:w2.cell? ⟨w.heap.size,1,none⟩=some (i64 s):=by rw [SE.cell_at hev2]; rfl
 have e2:w2.cell? ⟨w.heap.size,2,none⟩=some (.slice B n c):=by rw [SE.cell_at hev2]; rfl
 have e3:w2.cell? ⟨w.heap.size,3,none⟩=some (.bool v):=by rw [SE.cell_at hev2]; rfl
 have e4:w2.cell? ⟨w.heap.size,4,none⟩=some (i64 x1):=by rw [SE.cell_at hev2]; rfl
 have e5:w2.cell? ⟨w.heap.size,5,none⟩=some (i64 x2):=by rw [SE.cell_at hev2]; rfl
 have e6:w2.cell? ⟨w.heap.size,6,none⟩=some (i64 x3):=by rw [SE.cell_at hev2]; rfl
 have e7:w2.cell? ⟨w.heap.size,7,none⟩=some (i64 x4):=by rw [SE.cell_at hev2]; rfl
 have e8:w2.cell? ⟨w.heap.size,8,none⟩=some (.bool gv):=by rw [SE.cell_at hev2]; rfl
 have e9:w2.cell? ⟨w.heap.size,9,none⟩=some (.bool b):=by rw [SE.cell_at hev2]; rfl
 refine hK1 _ _ ?_
 gi_wp2
 rename_i KA hKA2 KB hKB K3 hK3
 refine ⟨trivial,?_⟩
 refine (callsIn_wide.2 (comes_fn M k s x1 x2 x3 x4 B n c v gv b w2)).mono ?_
 rintro e w3 ⟨rfl,hw3⟩
 refine hK3 _ _ ?_
 gi_wp2
 obtain ⟨tmps,htmps⟩:∃ tmps:Array Value,tmps=#[.pointer (some ⟨M,0,none⟩),.agg #[i64 k,i64 s,.slice B n c,.bool v,i64 x1,i64 x2,i64 x3,i64 x4,.bool gv,.bool b],undef,.pointer (some ⟨w.heap.size,0,none⟩),.pointer (some ⟨w.heap.size+1,0,none⟩),.pointer (some ⟨w1.heap.size,0,none⟩),undef,.pointer (some ⟨M,0,none⟩),.pointer (some ⟨M,0,none⟩),.pointer (some ⟨M,0,none⟩),.pointer (some ⟨Bc,0,none⟩),.bool false,undef,undef,.pointer (some ⟨M,0,none⟩),.pointer (some ⟨M,0,none⟩),.pointer (some ⟨M,0,none⟩),.pointer (some ⟨Bc,0,none⟩),.agg ts,.pointer (some ⟨M,0,none⟩),.agg #[i64 k,i64 s,.slice B n c,.bool v,i64 x1,i64 x2,i64 x3,i64 x4,.bool gv,.bool b],.func (.func 31) #[] #[.pointer (some ⟨w2.heap.size+1,0,none⟩),.pointer (some ⟨w2.heap.size,0,none⟩)],undef,undef,undef,undef,undef,undef,undef,undef,undef,undef,undef,undef,undef,undef,undef,undef,undef,undef,undef,undef]:=⟨_,rfl⟩
 have z3:w3.heap.size=w2.heap.size+2:=by rw [hw3,alloc_size,alloc_size]
 have k3:∀ n,n<w2.heap.size→w3.heap[n]?=w2.heap[n]?:=fun n hn=>by rw [hw3,alloc_same _ _ n (by rw [alloc_size]; omega),alloc_same _ _ n hn]
 have hbm3:w3.heap[w2.heap.size]?=some (.cells #[.pointer (some ⟨M,0,none⟩)] 31 (0,0)):=by
  rw [hw3,alloc_same _ _ _ (by rw [alloc_size]; omega)]
  exact heap_alloc_new w2 _
 have hbe3:w3.heap[w2.heap.size+1]?=some (.cells #[i64 k,i64 s,.slice B n c,.bool v,i64 x1,i64 x2,i64 x3,i64 x4,.bool gv,.bool b] 48 (0,0)):=by
  have e:w2.heap.size+1=(w2.alloc (.cells #[.pointer (some ⟨M,0,none⟩)] 31)).heap.size:=by rw [alloc_size]
  rw [hw3,e]
  exact heap_alloc_new _ _
 have o3:w3.os=w.os∧w3.tape=w.tape∧w3.output=w.output:=by
  rw [hw3]
  refine ⟨?_,?_,?_⟩
  ·show w2.os=_; rw [hw2.os]; show w1.os=_; rw [hFt.os,← hwB,hwA]; rfl
  ·show w2.tape=_; rw [hw2.tape]; show w1.tape=_; rw [hFt.tape,← hwB,hwA]; rfl
  ·show w2.output=_; rw [hw2.output]; show w1.output=_; rw [hFt.output,← hwB,hwA]; rfl
 have loop_w:∀ fn:FuncId,∃ w4,w4=Rg.loopW w3 fn tmps #[22] asg10 bod10∧w4.heap.size=w3.heap.size+2∧(∀ n,n<w3.heap.size→w4.heap[n]?=w3.heap[n]?)∧w4.heap[w3.heap.size+1]?=some (.loop (Rg.recOf fn tmps #[22] asg10 bod10 w3.heap.size .ready none)) ∧
   w4.heap[w3.heap.size]?=some (.deferred (some []))∧w4.os=w3.os∧w4.tape=w3.tape∧w4.output=w3.output:=fun fn=>by
  refine ⟨_,rfl,by unfold Rg.loopW; rw [alloc_size,alloc_size],fun n hn=>by unfold Rg.loopW; rw [alloc_same _ _ n (by rw [alloc_size]; omega),alloc_same _ _ n hn],?_,?_,rfl,rfl,rfl⟩
  ·have e:w3.heap.size+1=(w3.alloc (.deferred (some []))).heap.size:=by rw [alloc_size]
   unfold Rg.loopW
   rw [e]
   exact heap_alloc_new _ _
  ·unfold Rg.loopW
   rw [alloc_same _ _ _ (by rw [alloc_size]; omega)]
   exact heap_alloc_new _ _
 have go_l:∀ l,1≤l→l≤3→g l<w.heap.size∧¬ O (g l)∧g l≠M:=fun l a b=>by
  obtain ⟨n0,rest,hst,_⟩:=hS.str l a b
  exact ⟨hst.1,(hS.far l a b _ (.inl rfl)).1,(hS.far l a b _ (.inl rfl)).2.1⟩
 have k03:∀ n,n<w.heap.size→¬ O n→w3.heap[n]?=w.heap[n]?:=fun n hn ho=>(k3 n (by omega)).trans ((k12 n (by omega) ho).trans (kA n hn))
 refine Rg.range_any (gf:=31) (lb:=#[.pointer (some ⟨w2.heap.size+1,0,none⟩),.pointer (some ⟨w2.heap.size,0,none⟩)]) rfl (by omega) rfl trivial (fun args w=>by go_simp)
  (fun W=>∃ fn w4,w4=Rg.loopW w3 fn tmps #[22] asg10 bod10∧CW K (fun rs A W=>∃ m,StepJ mo (w3.heap.size+1) w1.heap.size (w3.heap.size+2) (Rg.recOf fn tmps #[22] asg10 bod10 w3.heap.size .ready none) m rs A W) (EvR RB RS RT RH k s b) d (grow O wB w1) (fun n=>n=w1.heap.size∨n=w3.heap.size+1∨n=w3.heap.size) g w4 W) ?_ ?_
 ·intro fn _
  obtain ⟨w4,hw4,z4,k4,l4,d4,o4,t4,u4⟩:=loop_w fn
  have hRd:RoundI mo Fence.wide 2 (w3.heap.size+1) (StepJ mo (w3.heap.size+1) w1.heap.size (w3.heap.size+2) (Rg.recOf fn tmps #[22] asg10 bod10 w3.heap.size .ready none)):=by
   rw [htmps]
   exact step_round
  have k04:∀ n,n<w.heap.size→¬ O n→w4.heap[n]?=w.heap[n]?:=fun n hn ho=>(k4 n (by omega)).trans (k03 n hn ho)
  have hgl:∀ n,grow O wB w1 n→n<w1.heap.size:=fun n hn=>hC.lt _ _ _ n hKt hn
  have k14:∀ n,n<w1.heap.size→w4.heap[n]?=w1.heap[n]?:=fun n hn=>(k4 n (by omega)).trans ((k3 n (by omega)).trans (k2 n hn))
  have hK4:K d (grow O wB w1) w4:=hC.keep _ _ _ _ hKt ⟨by omega,fun n hn=>k14 n (hgl n hn),by rw [o4,hw3]; exact hw2.os,by rw [t4,hw3]; exact hw2.tape,by rw [u4,hw3]; exact hw2.output⟩
  have hJ4:StepJ mo (w3.heap.size+1) w1.heap.size (w3.heap.size+2) (Rg.recOf fn tmps #[22] asg10 bod10 w3.heap.size .ready none) 0 [] (fun n=>n=w1.heap.size∨n=w3.heap.size+1∨n=w3.heap.size) w4:=by
   refine ⟨⟨ts,.slice none 0 0,.slice none 0 0,0,[],(k4 _ (by omega)).trans ((k3 _ (by omega)).trans c2),ht2,ht3,ht4,ht12,ht13,World.ownsRow_nil _ _ _ _,by simp,by omega,World.ownsRow_nil _ _ _ _,fun g hg=>by (cases hg),fun g hg=>by (cases hg),fun g hg=>by (cases hg)⟩,
    l4,d4,by simp,by simp,.inl rfl,.inr (.inl rfl),.inr (.inr rfl),?_,⟨by omega,by omega,by omega,by omega,by omega⟩,by omega⟩
   intro n hn
   rcases hn with rfl | rfl | rfl <;> omega
  have hS4:Strs g (grow O wB w1) (fun n=>n=w1.heap.size∨n=w3.heap.size+1∨n=w3.heap.size) w4:=by
   refine hS.keep (by omega) (fun l a b' n hn'=>?_) (fun n hn=>?_) (fun n hn=>?_)
   ·obtain ⟨n0,rest,hst,_⟩:=hS.str l a b'
    exact k04 n (sfoot_lt hst hn') (hS.far l a b' n hn').1
   ·rcases hn with h | h
    ·exact .inl h
    ·exact .inr (by omega)
   ·exact .inr (by rcases hn with rfl | rfl | rfl <;> omega)
  have hgrow:∀ n,n<w.heap.size→¬ O n→¬ grow O wB w1 n:=fun n hn ho h=>by
   rcases h with h | h
   ·exact ho h
   ·omega
  have hev4:w4.heap[w2.heap.size+1]?=some (.cells #[i64 k,i64 s,.slice B n c,.bool v,i64 x1,i64 x2,i64 x3,i64 x4,.bool gv,.bool b] 48 (0,0)):=(k4 _ (by omega)).trans hbe3
  have key:=comes_all hC hRd (M:=M) (be:=w2.heap.size+1) (bm:=w2.heap.size) (w:=w4) (z:=k) (s:=s) (x1:=x1) (x2:=x2) (x3:=x3) (x4:=x4) (B:=B) (n:=n) (c:=c) (v:=v) (gv:=gv) (b:=b) (x:=x) (mm:=0) hRB0 hRBt
   (fun m rs A w h hm=>by have:=h.rlen; omega) hK4 hJ4
   (fun n hn h=>by have:=hgl n h; rcases hn with rfl | rfl | rfl <;> omega) hS4
   (fun q hq=>by
    rcases hq with rfl | rfl | rfl
    ·exact ⟨fun h=>by have:=hgl _ h; omega,fun h=>by rcases h with h | h | h <;> omega,fun l a b' e=>by have:=(go_l l a b').1; omega⟩
    ·exact ⟨hgrow _ hlt hOM,fun h=>by rcases h with h | h | h <;> omega,fun l a b' e=>(go_l l a b').2.2 e.symm⟩
    ·exact ⟨fun h=>by have:=hgl _ h; omega,fun h=>by rcases h with h | h | h <;> omega,fun l a b' e=>by have:=(go_l l a b').1; omega⟩)
   (by rw [SE.cell_at ((k4 _ (by omega)).trans hbm3)]; rfl) ((World.cell?_of_block (a:=⟨M,0,none⟩) (k04 M hlt hOM)).trans hM0) (fun l a b'=>(World.cell?_of_block (a:=⟨M,l+1,none⟩) (k04 M hlt hOM)).trans (hMg l a b'))
   (by rw [SE.cell_at hev4]; rfl) (by rw [SE.cell_at hev4]; rfl) (by rw [SE.cell_at hev4]; rfl) (by rw [SE.cell_at hev4]; rfl) (by rw [SE.cell_at hev4]; rfl) (by rw [SE.cell_at hev4]; rfl) (by rw [SE.cell_at hev4]; rfl) (by rw [SE.cell_at hev4]; rfl) (by rw [SE.cell_at hev4]; rfl) (by rw [SE.cell_at hev4]; rfl)
   hx ((reads_keep hrd fun y hy hb=>k04 _ hb fun h=>hB y hy (hOm _ h)).more (by omega)) hn
  have key2:=key.mono (R':=fun e W=>(∃ v,e=.returned v)∧(∃ fn w4,w4=Rg.loopW w3 fn tmps #[22] asg10 bod10∧CW K (fun rs A W=>∃ m,StepJ mo (w3.heap.size+1) w1.heap.size (w3.heap.size+2) (Rg.recOf fn tmps #[22] asg10 bod10 w3.heap.size .ready none) m rs A W) (EvR RB RS RT RH k s b) d (grow O wB w1) (fun n=>n=w1.heap.size∨n=w3.heap.size+1∨n=w3.heap.size) g w4 W) ∧
   W.heap[w3.heap.size+1]?=some (.loop (Rg.recOf fn tmps #[22] asg10 bod10 w3.heap.size .ready none))∧W.heap[w3.heap.size]?=some (.deferred (some []))) fun e W h=>by
    obtain ⟨hv,hCW⟩:=h
    obtain ⟨d',O',rs',A',q1,⟨m,q2⟩,q3⟩:=hCW.ex
    exact ⟨hv,⟨fn,w4,hw4,hCW⟩,q2.lp,q2.df⟩
  rw [hw4] at key2
  subst htmps
  exact key2
 ·rintro W r ⟨fn,w4,hw4,hCW⟩ hdf
  obtain ⟨w4',hw4',z4,k4,_,_,o4,t4,u4⟩:=loop_w fn
  obtain rfl:w4=w4':=hw4.trans hw4'.symm
  obtain ⟨⟨d',O',rs',A',q1,⟨m,hJW⟩,q3,q4,q5,q6,q7,q8⟩,qstr,qF⟩:=hCW
  have hgl:∀ n,grow O wB w1 n→n<w1.heap.size:=fun n hn=>hC.lt _ _ _ n hKt hn
  have hgO:∀ n,n<w.heap.size+2→¬ O n→¬ grow O wB w1 n:=fun n hn ho h=>by
   rcases h with h | h
   ·exact ho h
   ·omega
  have zW:=qF.size
  have kW:∀ n,n<w.heap.size+2→¬ O n→(∀ l,1≤l→l≤3→n≠g l)→W.heap[n]?=w4.heap[n]?:=fun n hn ho hg=>qF.same n (by omega) fun h=>by
   rcases h with h | h | ⟨l,a,b',h⟩
   ·exact hgO n hn ho h
   ·rcases h with h | h | h <;> omega
   ·exact hg l a b' h
  have nO:∀ n,w.heap.size≤n→¬ O n:=fun n hn h=>by have:=hOlt n h; omega
  have hz4:w4.heap[w.heap.size+1]?=some (.cells zs 43 (0,0)):=(k4 _ (by omega)).trans ((k3 _ (by omega)).trans hz2)
  have hzW:W.heap[w.heap.size+1]?=some (.cells zs 43 (0,0)):=(kW _ (by omega) (nO _ (by omega)) (fun l a b' e=>by have:=(go_l l a b').1; omega)).trans hz4
  obtain ⟨es,v12,v13,ns,xs,j1,j2,j3,j4,j5,j6,j7,j8,j9,j10,j11,j12,j13⟩:=hJW.ex
  have jf:=hJW.fb
  refine hKA2 _ _ ?_
  refine wpIn_seq (wpIn_region_lit ?_)
  have hbP:(W.putObj (w3.heap.size+1) r).heap[w1.heap.size]?=some (.cells es 43 (0,0)):=(World.putObj_heap_other (by omega)).trans j1
  refine in_load (b:=w1.heap.size) (off:=0) (n:=46) rfl rfl rfl hbP Tryz.underlying43 rfl told_info (by omega) ?_
  simp only [Act.put,List.setIfInBounds_toArray,List.set_cons_succ,List.set_cons_zero]
  have hes:((es.toList.drop 0).take 46).toArray=es:=by
   rw [List.drop_zero,List.take_of_length_le (by rw [Array.length_toList]; omega)]
  rw [hes]
  have hzP:(W.putObj (w3.heap.size+1) r).heap[w.heap.size+1]?=some (.cells zs 43 (0,0)):=(World.putObj_heap_other (by omega)).trans hzW
  refine in_store (b:=w.heap.size+1) (off:=0) (xs:=es) (v:=.agg es) rfl rfl rfl rfl rfl j3 (by rw [j2]; exact told_info) hzP (by omega) fun wf hwf=>?_
  simp only [Act.put,List.setIfInBounds_toArray,List.set_cons_succ,List.set_cons_zero]
  refine wpListIn_nil ?_
  refine wpIn_ret ?_
  have cf:wf.heap[w.heap.size+1]?=some (.cells es 43 (0,0)):=by
   have:=hwf.cell
   have e:spl zs.toList 0 es.toList=es.toList:=by
    unfold spl
    rw [List.take_zero,List.nil_append,List.drop_eq_nil_of_le (by rw [Array.length_toList,Array.length_toList]; omega),List.append_nil]
   rw [e] at this
   exact this
  have kf:∀ n,n≠w.heap.size+1→n≠w3.heap.size+1→wf.heap[n]?=W.heap[n]?:=fun n h1 h2=>(hwf.same n h1).trans (World.putObj_heap_other h2)
  have zf:wf.heap.size=W.heap.size:=by rw [hwf.size]; simp
  have hdf2:wf.heap[w3.heap.size]?=some (.deferred (some [])):=(kf _ (by omega) (by omega)).trans hdf
  refine ⟨(fun h=>by cases h),.inl ⟨w3.heap.size,_,rfl,run_takeDeferred hdf2,?_⟩⟩
  obtain ⟨wz,hwz⟩:∃ wz,wz=wf.putObj w3.heap.size (.deferred none):=⟨_,rfl⟩
  have kz:∀ n,n≠w3.heap.size→wz.heap[n]?=wf.heap[n]?:=fun n hn=>by rw [hwz]; exact World.putObj_heap_other hn
  have zz:wz.heap.size=W.heap.size:=by rw [hwz,← zf]; simp
  have kk:∀ n,n≠w.heap.size+1→n≠w3.heap.size+1→n≠w3.heap.size→wz.heap[n]?=W.heap[n]?:=fun n h1 h2 h3=>(kz n h3).trans (kf n h1 h2)
  have cz:wz.heap[w.heap.size+1]?=some (.cells es 43 (0,0)):=(kz _ (by omega)).trans cf
  have oz:wz.os=w.os∧wz.tape=w.tape∧wz.output=w.output:=by
   refine ⟨?_,?_,?_⟩
   ·rw [hwz]; show wf.os=_; rw [hwf.os]; show W.os=_; rw [qF.os,o4,o3.1]
   ·rw [hwz]; show wf.tape=_; rw [hwf.tape]; show W.tape=_; rw [qF.tape,t4,o3.2.1]
   ·rw [hwz]; show wf.output=_; rw [hwf.output]; show W.output=_; rw [qF.output,u4,o3.2.2]
  rw [← hwz]
  have hload:=run_loadVar_mid (P:=Tryz.prog) wz (w.heap.size+1) 0 43 es.toList _ (fun j u hu=>by rw [SE.cell_at cz,Nat.zero_add]; simpa using hu) Tryz.underlying43 rfl (by rw [Array.length_toList,j2]; exact told_info)
  rw [Array.toArray_toList] at hload
  have hO'new:∀ n,O' n→O n∨w.heap.size+2≤n:=fun n hn=>by
   rcases q6 n hn with h | h
   ·rcases h with h | h
    ·exact .inl h
    ·exact .inr (by omega)
   ·exact .inr (by omega)
  have hO'L:¬ O' (w3.heap.size+1):=q5 _ hJW.al
  have hO'd:¬ O' w3.heap.size:=by
   have:=q5 _ hJW.ad
   exact this
  have hO'b:¬ O' (w.heap.size+1):=fun h=>by
   rcases hO'new _ h with h | h
   ·exact nO _ (by omega) h
   ·omega
  have hKz:K d' O' wz:=hC.keep _ _ _ _ q1 ⟨by omega,fun n hn=>kk n (fun e=>hO'b (e ▸ hn)) (fun e=>hO'L (e ▸ hn)) (fun e=>hO'd (e ▸ hn)),by rw [oz.1,qF.os,o4,o3.1],by rw [oz.2.1,qF.tape,t4,o3.2.1],by rw [oz.2.2,qF.output,u4,o3.2.2]⟩
  have k0W:∀ n,n<w.heap.size→¬ O n→(∀ l,1≤l→l≤3→n≠g l)→wz.heap[n]?=w.heap[n]?:=fun n hn ho hg =>
   (kk n (by omega) (by omega) (by omega)).trans ((kW n (by omega) ho hg).trans ((k4 n (by omega)).trans (k03 n hn ho)))
  have hSW:∀ l,1≤l→l≤3→∀ n,SFoot W (g l) n→wz.heap[n]?=W.heap[n]?:=fun l a b' n hn=>by
   have h:=q8 l a b' n hn
   refine kk n (fun e=>?_) (fun e=>h.2.1 (e ▸ hJW.al)) (fun e=>h.2.1 (e ▸ hJW.ad))
   rcases h.2.2 with h | h
   ·subst e
    have:=sfoot_same (w:=w) (w':=w4) ((k4 _ (by have:=(go_l l a b').1; omega)).trans (k03 _ (go_l l a b').1 (go_l l a b').2.1)) h
    obtain ⟨n0,rest,hst,_⟩:=hS.str l a b'
    have:=sfoot_lt hst this
    omega
   ·omega
  have hsW:∀ l,1≤l→l≤3→∀ n,SFoot wz (g l) n→SFoot W (g l) n∧(SFoot w (g l) n∨w3.heap.size+2≤n):=fun l a b' n hn=>by
   have h1:=sfoot_same (hSW l a b' _ (.inl rfl)) hn
   refine ⟨h1,?_⟩
   rcases (q8 l a b' n h1).2.2 with h | h
   ·exact .inl (sfoot_same (w:=w) (w':=w4) ((k4 _ (by have:=(go_l l a b').1; omega)).trans (k03 _ (go_l l a b').1 (go_l l a b').2.1)) h)
   ·exact .inr (by omega)
  have hltS:∀ l,1≤l→l≤3→∀ n,SFoot wz (g l) n→n<wz.heap.size:=fun l a b' n hn=>by
   obtain ⟨n0,rest,hst,_⟩:=qstr l a b'
   have:=sfoot_lt hst (hsW l a b' n hn).1
   omega
  have hMz:∀ i,wz.cell? ⟨M,i,none⟩=w.cell? ⟨M,i,none⟩:=fun i=>World.cell?_of_block (a:=⟨M,i,none⟩) (k0W M hlt hOM fun l a b' e=>(go_l l a b').2.2 e.symm)
  obtain ⟨A13,c13,hv13,hr13,hb13⟩:=own_reads j10
  refine ⟨.agg es,results_cell rfl rfl hload,d',.agg es,rs',fun n=>O' n∨n=M∨∃ l,1≤l∧l≤3∧SFoot wz (g l) n,rfl,⟨⟨O',g,hKz,(hMz 0).trans hM0,?_,fun l a b'=>(hMz (l+1)).trans (hMg l a b'),⟨fun l a b'=>?_,fun l a b' n hn=>?_⟩,fun n hn=>.inl hn,.inr (.inl rfl),fun l a b' n hn=>.inr (.inr ⟨l,a,b',hn⟩)⟩,fun n hn=>?_⟩,fun n hn=>?_,⟨by omega,fun n hn hno=>?_,oz.1,oz.2.1,oz.2.2⟩,
   ⟨es,v12,A13,rs'.length,c13,rfl,j2,j3,j4,j5,by rw [j6,hv13],rfl,?_,hJW.src⟩,q4,q3,fun cs x n c hcs hx hn=>?_⟩
  ·intro h
   rcases hO'new M h with h | h
   ·exact hOM h
   ·omega
  ·obtain ⟨n0,rest,hst,hl⟩:=qstr l a b'
   exact ⟨n0,rest,strm_keep hst (by omega) (hSW l a b'),hl⟩
  ·have h:=hsW l a b' n hn
   refine ⟨(q8 l a b' n h.1).1,fun e=>?_,fun l' a' b'' hne e=>?_⟩
   ·rcases h.2 with h | h
    ·exact (hS.far l a b' n h).2.1 e
    ·omega
   ·rcases h.2 with h | h
    ·exact (hS.far l a b' n h).2.2 l' a' b'' hne e
    ·have:=(go_l l' a' b'').1
     omega
  ·rcases hn with hn | hn | ⟨l,a,b',hn⟩
   ·exact hC.lt _ _ _ n hKz hn
   ·subst hn; omega
   ·exact hltS l a b' n hn
  ·rcases hn with hn | hn | ⟨l,a,b',hn⟩
   ·rcases hO'new n hn with h | h
    ·exact .inl (hOm n h)
    ·exact .inr ⟨by omega,by have:=hC.lt _ _ _ n hKz hn; exact this⟩
   ·subst hn; exact .inl hMm
   ·rcases (hsW l a b' n hn).2 with h | h
    ·exact .inl (hSm l a b' n h)
    ·exact .inr ⟨by omega,hltS l a b' n hn⟩
  ·exact k0W n hn (fun h=>hno (hOm n h)) fun l a b' e=>hno (hSm l a b' n (.inl e))
  ·rw [zz]
   exact (reads_keep hr13 fun y hy hb=>kk _ (by have:=hb13 y hy; omega) (by have:=hb13 y hy; omega) (by have:=hb13 y hy; omega))
  ·cases hcs
   rw [j6,hv13] at hx
   cases hx
   have hA:A' x.block:=j12 x.block (by rw [hv13]; rfl)
   have hbx:=hb13 x rfl
   rcases hn with hn | hn | ⟨l,a,b',hn⟩
   ·exact q5 _ hA hn
   ·omega
   ·exact (q8 l a b' _ (hsW l a b' _ hn).1).2.1 hA
end Mc
end
section
namespace SE
open Go.RowKit Mc
variable {X Y:Px} {own0:Nat→Prop} {w0 w w':World} {E E':Env} {st:SE.St} {pc:Array Value}
def rawS0:SE.St:=⟨rawHeap,newS.tab++rawTab,rawSls,300,[]⟩
def rawIds:List Nat:=[1,2,3,21,22,23,24,270,271,272]++(newS.tab++rawTab).map Prod.fst
def renW:List (Nat×Rn):=rawIds.map fun i=>(i,lfW i)
def rawS1:SE.St:=⟨(300,.opq)::upd rawHeap 3 (.cells 158 [.sl 301,A 148,C64]),newS.tab++rawTab,(301,.own 300 1 [N 0,N 0,N 0,N 0,A 148])::rawSls,302,[(2,polCells)]⟩
def renC:List (Nat×Rn):=[(5,.nm 300),(30,.nm 301),(237,.z 0),(238,.z 0),(239,.z 0)]++rawIds.map fun i=>(i,.nm i)
theorem raw_fit:fit rawS0 aliveS zT ⟨0,renW⟩=true:=by decide +kernel
theorem core_fit:fit coreSt rawS1 zT ⟨0,renC⟩=true:=by decide +kernel
theorem G.px (g:G X own0 w0 E st w) (hg:Y.T.gl=X.T.gl) (hf:st.facts=[]) (ho:∀ id i,lk st.sls id=some i→∃ x,i=.bytes x):G Y own0 w0 E st w:=by
 refine ⟨g.size,g.os,g.tape,g.output,g.frame,g.heap,g.inj,g.tab,fun id i hl=>?_,g.dom,fun gg cs h=>g.gl gg cs (by rw [← hg]; exact h),fun x hx=>by rw [hf] at hx; cases hx⟩
 obtain ⟨x,rfl⟩:=ho id i hl
 exact g.sls id _ hl
theorem G.addNilE (g:G X own0 w0 E st w) {nm:Nat} {args:List SV} {vs:List Value} (hoe:(X.T.ownE nm).isSome=true) (hrp:X.RP nm vs []) (hvs:RL E args vs) :
  E.le (E.upd (st.nid+1) (.sl none 0 0))∧R (E.upd (st.nid+1) (.sl none 0 0)) (.sl (st.nid+1)) (.slice none 0 0)∧G X own0 w0 (E.upd (st.nid+1) (.sl none 0 0)) { st with heap:=(st.nid,.opq)::st.heap,sls:=(st.nid+1,.own st.nid nm (N 0::args))::st.sls,nid:=st.nid+2 } w:=by
 obtain ⟨⟨oe,osz⟩,hoe⟩:=Option.isSome_iff_exists.1 hoe
 have hn1:E (st.nid+1)=none:=g.dom _ (by omega)
 have hle:=Env.le_upd (x:=EV.sl none 0 0) hn1
 have g1:=g.mono hle (fun id hid=>Env.upd_ne _ _ (by omega)) (nid:=st.nid+2) (by omega) (fun id hid=>by
  rw [Env.upd_ne _ _ (by omega)]
  exact g.dom id (by omega))
 have hnone:(E.upd (st.nid+1) (.sl none 0 0)) st.nid=none:=by rw [Env.upd_ne _ _ (by omega)]; exact g.nid_none
 refine ⟨hle,by simp only [R]; exact ⟨none,0,0,Env.upd_self _ _ _,rfl⟩,?_⟩
 refine ⟨g1.size,g1.os,g1.tape,g1.output,g1.frame,?_,?_,g1.tab,?_,g1.dom,?_,g1.facts⟩
 ·intro id blk hl'
  simp only [lk_cons] at hl'
  split at hl'
  ·rename_i hh
   cases hl'
   refine .inl ⟨rfl,by simp only; omega,fun m hm=>?_⟩
   rw [hh,hnone] at hm
   cases hm
  ·exact g1.heap id blk hl'
 ·intro id id' b1 b2 m p1 p2 p3 p4
  simp only [lk_cons] at p1 p2
  split at p1
  ·rename_i hh
   rw [hh,hnone] at p3
   cases p3
  ·split at p2
   ·rename_i hh
    rw [hh,hnone] at p4
    cases p4
   ·exact g1.inj id id' b1 b2 m p1 p2 p3 p4
 ·intro id si hl'
  simp only [lk_cons] at hl'
  split at hl'
  ·rename_i hh
   subst hh
   cases hl'
   refine ⟨by simp [lk_cons],none,0,0,.int .i64 0::vs,Env.upd_self _ _ _,?_,fun x hx=>(by cases hx),oe,osz,vs,hoe,rfl,.inl ⟨rfl,rfl,rfl,hrp⟩⟩
   exact RL_cons.2 ⟨RN _ 0,hvs.mono hle⟩
  ·have hs:=g1.sls id si hl'
   cases si with
   | bytes len =>
    obtain ⟨base,ln,cap,q1,q2,q3,q4,q5⟩:=hs
    refine ⟨base,ln,cap,q1,q2,q3,q4,fun x hx=>⟨(q5 x hx).1,fun bid blk hb' hc'=>?_⟩⟩
    simp only [lk_cons] at hb'
    split at hb'
    ·rename_i hh
     rw [hh,hnone] at hc'
     cases hc'
    ·exact (q5 x hx).2 bid blk hb' hc'
   | row b l=>exact hs
   | own b2 nm2 args2 =>
    obtain ⟨q0,q1⟩:=hs
    refine ⟨?_,q1⟩
    simp only [lk_cons]
    have:=g.hid q0
    rw [if_neg (by omega)]
    exact q0
 ·intro gg cs' hg
  obtain ⟨q1,q2,q3⟩:=g1.gl gg cs' hg
  refine ⟨q1,fun id blk hl' hc'=>?_,q3⟩
  simp only [lk_cons] at hl'
  split at hl'
  ·rename_i hh
   rw [hh,hnone] at hc'
   cases hc'
  ·exact q2 id blk hl' hc'
theorem RL_at:∀ {l:List SV} {vs:List Value} {i:Nat} {c:SV},RL E l vs→l[i]?=some c→∃ v,vs[i]?=some v∧R E c v
 | [],vs,i,c,h,e=>by simp at e
 | x::l,vs,i,c,h,e=>by
  simp only [RL] at h
  obtain ⟨v,us,rfl,h1,h2⟩:=h
  cases i with
  | zero=>simp at e; subst e; exact ⟨v,rfl,h1⟩
  | succ i=>simp at e; simpa using RL_at h2 e
theorem polC_at {i:Nat} (h:i<56):polCells[i]?=some (polC i):=by
 rw [polCells_eq]
 simp [h]
theorem renW_k:(List.range 56).all (fun i=>!isK i||isNm ⟨0,renW⟩ (100+i) (100+i))=true:=by decide +kernel
theorem newS_k:newS.tab.all (fun p=>Nat.ble 100 p.1&&Nat.ble p.1 155&&isK (p.1 - 100)&&rgB (p.1 - 100) p.2.1 p.2.2)=true:=by decide +kernel
theorem isK_lt {i:Nat} (h:i<5):isK i=true:=by
 match i,h with
 | 0,_=>rfl
 | 1,_=>rfl
 | 2,_=>rfl
 | 3,_=>rfl
 | 4,_=>rfl
theorem raw_pol (hp:PolR w pc.toList) (hle:(EW pc).le E') (g:G X own0 w0 (envOf ⟨0,renW⟩ E') rawS0 w') {vs:List Value} (hr:RL (envOf ⟨0,renW⟩ E') polCells vs) :
  PolR w' vs∧∀ i,i<56→isK i=true→vs[i]?=pc[i]?:=by
 have hlen:vs.length=56:=by rw [RL_length hr,polCells_eq]; simp
 have hv:∀ i,i<56→isK i=true→vs[i]?=some (i64 (Proofs.YtdgejnakakjgfaaGreatDoor.pI pc i)):=fun i hi hk=>by
  obtain ⟨v,h1,h2⟩:=RL_at hr (polC_at hi)
  have hc:polC i=A (100+i):=by
   have:(Nat.blt i 5||Nat.ble 9 i)=true:=hk
   simp only [polC,this,cond_true]
  rw [hc] at h2
  have hn:=allRg renW_k hi
  rw [hk] at hn
  have he:envOf ⟨0,renW⟩ E' (100+i)=some (.z (Proofs.YtdgejnakakjgfaaGreatDoor.pI pc i)):=by
   rw [isNm_ok (by simpa using hn)]
   exact hle _ _ (EW_z (by omega))
  simp only [A,R,SIok] at h2
  obtain ⟨z,hz,rfl⟩:=h2
  rw [he] at hz
  cases hz
  exact h1
 have hpc:∀ i,i<56→isK i=true→pc[i]?=some (i64 (Proofs.YtdgejnakakjgfaaGreatDoor.pI pc i)):=fun i hi hk=>hp.ok.2 i hi (isK_ok hk)
 refine ⟨⟨hlen,fun p hpm=>?_,fun i hi=>?_,fun s hs=>?_⟩,fun i hi hk=>by rw [hv i hi hk,hpc i hi hk]⟩
 ·have hm:=List.all_eq_true.1 newS_k _ hpm
  simp only [Bool.and_eq_true] at hm
  obtain ⟨⟨⟨h1,h2⟩,h3⟩,h4⟩:=hm
  have h1:=Nat.le_of_ble_eq_true h1
  have h2:=Nat.le_of_ble_eq_true h2
  obtain ⟨_,z1,z2⟩:=hp.pI h4
  exact ⟨_,hv _ (by omega) h3,z1,z2⟩
 ·obtain ⟨v,h1,h2⟩:=RL_at hr (polC_at (i:=5+i) (by omega))
  have hc:polC (5+i)=.sl (21+i):=by
   match i,hi with
   | 0,_=>rfl
   | 1,_=>rfl
   | 2,_=>rfl
   | 3,_=>rfl
  rw [hc] at h2
  have hs:SlOk X (envOf ⟨0,renW⟩ E') rawS0 w' (21+i) (.bytes (.r 1 64)):=by
   match i,hi with
   | 0,_=>exact g.sls 21 _ rfl
   | 1,_=>exact g.sls 22 _ rfl
   | 2,_=>exact g.sls 23 _ rfl
   | 3,_=>exact g.sls 24 _ rfl
  obtain ⟨base,ln,c,e1,e2,e3,e4,e5⟩:=hs
  simp only [R] at h2
  obtain ⟨b',l',c',e6,rfl⟩:=h2
  rw [e1] at e6
  cases e6
  simp only [SIok] at e2
  exact ⟨base,ln,c,h1,by omega,by omega,e3,e4,fun x hx=>(e5 x hx).1⟩
 ·obtain ⟨i,i1,i2⟩:=hp.perm s hs
  refine ⟨i,i1,?_⟩
  rw [hv i (by omega) (isK_lt i1)]
  have i2':pc[i]?=some (.int .i64 s):=by simpa [i64] using i2
  simp only [Proofs.YtdgejnakakjgfaaGreatDoor.pI,i2']
end SE
end
section
namespace SE
open Go.RowKit Mc
variable {X Y:Px} {own0:Nat→Prop} {w0 w w':World} {E E':Env} {st:SE.St} {pc:Array Value}
def gOf (a b c:Nat) (l:Nat):Nat:=if l=1 then a else if l=2 then b else c
def d00:Num:=⟨(0,0,0),(0,0,0),(0,0,0)⟩
def Dead (w:World) (M:Nat):Prop:=∃ z:Int,(0≤z∧z≤50)∧w.heap[M]?=some (.cells #[.pointer none,i64 z,.pointer none,.pointer none,.pointer none] 71 (0,0))
def Alive (pc:Array Value) (w00 w w':World) (M:Nat):Prop :=
 ∃ (pc':Array Value) (Bc:Nat) (MO:Foot),PolR w' pc'.toList∧(∀ i,i<56→isK i=true→pc'[i]?=pc[i]?)∧MInv (KC pc' w00 Bc) Bc M d00 MO w' ∧
  ∀ n,MO n→n<w00.heap.size∨w.heap.size≤n∨∃ a ln,a.block=n∧1≤ln∧ByteRow w' (some a) ln
theorem G.early {w00:World} (g:G X (fun _=>False) w E st w') (h:Below w00.heap.size w00 w):G X (fun _=>False) w00 E st w':=by
 obtain ⟨h1,h2,h3,h4,h5⟩:=h
 refine ⟨Nat.le_trans h4 g.size,g.os.trans h1,g.tape.trans h2,g.output.trans h3,fun n hn _=>?_,fun id blk hl=>?_,g.inj,g.tab,g.sls,g.dom,g.gl,g.facts⟩
 ·rw [g.frame n (by omega) (fun h=>h)]
  exact h5 n hn
 ·rcases g.heap id blk hl with ⟨p1,p2,p3⟩ | ⟨n,p1,p2,p3,p4⟩
  ·exact .inl ⟨p1,p2,fun n hn=>⟨(p3 n hn).1,(p3 n hn).2.imp (fun h=>h) fun q=>by omega⟩⟩
  ·exact .inr ⟨n,p1,p2,p3.imp (fun h=>h) fun q=>q.imp (fun h=>h) fun q=>by omega,p4⟩
def machC:List SV:=[.ptr 1000001 0,N 0,.ptr 1000311 0,.ptr 1000312 0,.ptr 1000313 0]
theorem al_M:lk aliveS.heap 1000310=some (.cells 71 machC):=by kernel_rfl
theorem al_1:lk aliveS.heap 1000311=some (.cells 124 [.nils]):=by kernel_rfl
theorem al_2:lk aliveS.heap 1000312=some (.cells 124 [.nils]):=by kernel_rfl
theorem al_3:lk aliveS.heap 1000313=some (.cells 124 [.nils]):=by kernel_rfl
def cellsB:Option Blk→Bool
 | some (.cells ..)=>true
 | _=>false
theorem cellsB_ok {o:Option Blk} (h:cellsB o=true):∃ e cs,o=some (.cells e cs):=by
 unfold cellsB at h
 split at h
 ·exact ⟨_,_,rfl⟩
 ·cases h
theorem al_c1:cellsB (lk aliveS.heap 1000001)=true:=by decide +kernel
theorem al_c2:cellsB (lk aliveS.heap 1000002)=true:=by decide +kernel
theorem al_c3:cellsB (lk aliveS.heap 1000003)=true:=by decide +kernel
theorem al_s1:lk aliveS.sls 1000021=some (.bytes (.r 1 64)):=by kernel_rfl
theorem al_s2:lk aliveS.sls 1000022=some (.bytes (.r 1 64)):=by kernel_rfl
theorem al_s3:lk aliveS.sls 1000023=some (.bytes (.r 1 64)):=by kernel_rfl
theorem al_s4:lk aliveS.sls 1000024=some (.bytes (.r 1 64)):=by kernel_rfl
theorem far_of {E2:Env} (g0:G (Xc pc) (fun _=>False) w E aliveS w') (h1:E2 1=E 1000001) (h2:E2 2=E 1000002) (h3:E2 3=E 1000003) (h5:E2 5=none)
  (hs:∀ i,i<4→E2 (21+i)=E (1000021+i)) {id:Nat} {e:Nat} {cs:List SV} (hl:lk aliveS.heap id=some (.cells e cs)) (hid:1000310≤id) {n:Nat} (hn:E id=some (.blk n)):¬ sees w E2 n:=by
 rintro (h | ⟨j,blk,q1,q2⟩ | ⟨j,len,a,ln,cap,q1,q2,rfl⟩ | ⟨cs',hg⟩)
 ·obtain ⟨_,q | q | q⟩:=g0.hown hl hn
  ·cases q
  ·exact q
  ·omega
 ·have hm:=lk_mem q1
  simp only [coreHeap,List.mem_cons,List.not_mem_nil,or_false,Prod.mk.injEq] at hm
  have no:∀ k,k<1000310→cellsB (lk aliveS.heap k)=true→E k=some (.blk n)→False:=fun k hk hc hE=>by
   obtain ⟨e',cs',hc⟩:=cellsB_ok hc
   have:=g0.inj k id _ _ n hc hl hE hn
   omega
  rcases hm with ⟨rfl,_⟩ | ⟨rfl,_⟩ | ⟨rfl,_⟩ | ⟨rfl,_⟩
  ·exact no _ (by omega) al_c1 (by rw [← h1]; exact q2)
  ·exact no _ (by omega) al_c2 (by rw [← h2]; exact q2)
  ·exact no _ (by omega) al_c3 (by rw [← h3]; exact q2)
  ·rw [h5] at q2; cases q2
 ·obtain ⟨b1,b2⟩:=core_lk_bytes q1
  have hsl:lk aliveS.sls (1000000+j)=some (.bytes (.r 1 64)):=by
   have:j=21∨j=22∨j=23∨j=24:=by omega
   rcases this with rfl | rfl | rfl | rfl
   ·exact al_s1
   ·exact al_s2
   ·exact al_s3
   ·exact al_s4
  obtain ⟨base,l2,c2,e1,_,_,_,e5⟩:=g0.sls _ _ hsl
  have:=hs (j - 21) (by omega)
  rw [show 21+(j - 21)=j by omega,show 1000021+(j - 21)=1000000+j by omega,q2,e1] at this
  cases this
  exact (e5 a rfl).2 _ _ hl hn
 ·exact (g0.gl n cs' hg).2.1 _ _ hl hn
theorem strm_nil {n0 n:Nat} {vs:Array Value} (h:w.heap[n]?=some (.cells vs 124 (0,0))) (hv:vs=#[.slice none 0 0]):Strm w n0 n []:=by
 subst hv
 refine ⟨(Array.getElem?_eq_some_iff.1 h).1,?_,none,0,0,?_,OwnB.nil _ _⟩
 ·simp only [World.frozen?,h]
  rfl
 ·rw [cell_at h]
  rfl
theorem sfoot_nil {n m:Nat} {vs:Array Value} (h:w.heap[n]?=some (.cells vs 124 (0,0))) (hv:vs=#[.slice none 0 0]) (hf:SFoot w n m):m=n:=by
 rcases hf with h1 | ⟨a,k,c,h2,_⟩
 ·exact h1
 ·subst hv
  rw [cell_at h] at h2
  cases h2
theorem str_of (g0:G (Xc pc) (fun _=>False) w E aliveS w') {id:Nat} (hl:lk aliveS.heap id=some (.cells 124 [.nils])):∃ n vs,E id=some (.blk n)∧n<w'.heap.size∧w'.heap[n]?=some (.cells vs 124 (0,0))∧vs=#[.slice none 0 0]:=by
 rcases g0.heap id _ hl with ⟨h,_⟩ | ⟨n,h1,h2,h3,vs,h4,h5⟩
 ·cases h
 ·obtain ⟨v,e,hv⟩:=RL1 h5
  simp only [R] at hv
  subst hv
  exact ⟨n,vs,h1,h2,h4,arr_of e⟩
theorem renW_n {i j:Nat} (h:isNm ⟨0,renW⟩ i j=true) (E:Env):envOf ⟨0,renW⟩ E i=E j:=isNm_ok h E
theorem renC_n {i j:Nat} (h:isNm ⟨0,renC⟩ i j=true) (E:Env):envOf ⟨0,renC⟩ E i=E j:=isNm_ok h E
theorem w_1:isNm ⟨0,renW⟩ 1 1000001=true:=by decide +kernel
theorem w_2:isNm ⟨0,renW⟩ 2 1000002=true:=by decide +kernel
theorem w_3:isNm ⟨0,renW⟩ 3 1000003=true:=by decide +kernel
theorem w_s:(List.range 4).all (fun i=>isNm ⟨0,renW⟩ (21+i) (1000021+i))=true:=by decide +kernel
theorem c_1:isNm ⟨0,renC⟩ 1 1=true:=by decide +kernel
theorem c_2:isNm ⟨0,renC⟩ 2 2=true:=by decide +kernel
theorem c_3:isNm ⟨0,renC⟩ 3 3=true:=by decide +kernel
theorem c_5:isNm ⟨0,renC⟩ 5 300=true:=by decide +kernel
theorem c_s:(List.range 4).all (fun i=>isNm ⟨0,renC⟩ (21+i) (21+i))=true:=by decide +kernel
theorem c_n:(List.range 6).all (fun i=>isNm ⟨0,renC⟩ (231+i) (231+i))=true:=by decide +kernel
def isZ (ren:Ren) (id:Nat):Bool:=match rnf ren id with
 | some (.z k)=>decide (k=0)
 | _=>false
theorem isZ_ok {ren:Ren} {id:Nat} (h:isZ ren id=true) (E:Env):envOf ren E id=some (.z 0):=by
 unfold isZ at h
 unfold envOf
 split at h
 ·rename_i k hk
  rw [hk]
  simp only [decide_eq_true_eq] at h
  rw [h]
 ·cases h
theorem c_z:(List.range 3).all (fun i=>isZ ⟨0,renC⟩ (237+i))=true:=by decide +kernel
theorem raw_z:(List.range 6).all (fun i=>(match lk rawS0.tab (231+i) with | some (a,b)=>decide (a=0)&&decide (b=0) | none=>false))=true:=by decide +kernel
end SE
end
section
namespace SE
open Go.RowKit Mc
variable {X Y:Px} {own0:Nat→Prop} {w0 w w':World} {E E':Env} {st:SE.St} {pc:Array Value}
theorem RL_split {E:Env}:∀ {l m:List SV} {us:List Value},RL E (l++m) us→∃ vs ws,us=vs++ws∧RL E l vs∧RL E m ws
 | [],m,us,h=>⟨[],us,rfl,by simp [RL],h⟩
 | x::l,m,us,h=>by
  simp only [List.cons_append,RL] at h
  obtain ⟨v,us',rfl,h1,h2⟩:=h
  obtain ⟨vs,ws,rfl,h3,h4⟩:=RL_split h2
  exact ⟨v::vs,ws,rfl,RL_cons.2 ⟨h1,h3⟩,h4⟩
theorem core_split:coreCells=polCells++coreCells.drop 56:=by kernel_rfl
theorem alive_core (hp:PolR w pc.toList) (hle:(EW pc).le E) (g0:G (Xc pc) (fun _=>False) w E aliveS w'):∃ (pc':Array Value) (E2:Env) (Bc:Nat),PolR w' pc'.toList∧(∀ i,i<56→isK i=true→pc'[i]?=pc[i]?) ∧
  G (Xc pc') (fun _=>False) w E2 coreSt w'∧NumE E2 0 d00∧E2 1=some (.blk Bc)∧E2 1=E 1000001∧E2 2=E 1000002∧E2 3=E 1000003∧E2 5=none∧∀ i,i<4→E2 (21+i)=E (1000021+i):=by
 have g1:=fit_same g0 raw_fit core_hgl (core_hZ hp.fit)
 obtain ⟨E1,hE1⟩:∃ E1,E1=envOf ⟨0,renW⟩ E:=⟨_,rfl⟩
 have hb1:lk rawS0.heap 1=some (.cells 108 coreCells):=rfl
 rcases g1.heap 1 _ hb1 with ⟨h,_⟩ | ⟨Bc,k1,k2,k3,cv,k4,k5⟩
 ·cases h
 rw [core_split] at k5
 obtain ⟨vs,ws,hcv,hpol,_⟩:=RL_split k5
 obtain ⟨hp',hsame⟩:=raw_pol hp hle g1 hpol
 obtain ⟨pc',hpc'⟩:∃ pc':Array Value,pc'=vs.toArray:=⟨_,rfl⟩
 have hvs:vs=pc'.toList:=by rw [hpc']
 rw [hvs] at hp' hpol
 have hsame':∀ i,i<56→isK i=true→pc'[i]?=pc[i]?:=fun i hi hk=>by
  rw [← hsame i hi hk,hvs]
  simp
 have g2:G (Xc pc') (fun _=>False) w (envOf ⟨0,renW⟩ E) rawS0 w':=g1.px rfl rfl fun id i hl=>by
  have hm:=lk_mem hl
  simp only [rawS0,rawSls,List.mem_cons,List.not_mem_nil,or_false,Prod.mk.injEq] at hm
  rcases hm with ⟨_,rfl⟩ | ⟨_,rfl⟩ | ⟨_,rfl⟩ | ⟨_,rfl⟩ <;> exact ⟨_,rfl⟩
 rw [← hE1] at g2 k1 hpol
 have h148:∃ m,E1 148=some (.z m)∧1≤m∧m≤3:=g2.tab 148 1 3 (by kernel_rfl)
 obtain ⟨m,m1,m2,m3⟩:=h148
 obtain ⟨hle3,hnil,g3⟩:=g2.addNilE (nm:=1) (args:=[N 0,N 0,N 0,A 148]) (vs:=[i64 0,i64 0,i64 0,i64 m]) (by rfl)
  (show LineOk pc' [i64 0,i64 0,i64 0,i64 m] [] from ⟨[],m,rfl,by simp,fun o ho=>(by cases ho),by simp; omega,by simp [bitOf]⟩)
  (RL_cons.2 ⟨RN _ 0,RL_cons.2 ⟨RN _ 0,RL_cons.2 ⟨RN _ 0,RL_cons.2 ⟨by simp only [A,R,SIok]; exact ⟨m,m1,rfl⟩,by simp [RL]⟩⟩⟩⟩)
 obtain ⟨E3,hE3⟩:∃ E3,E3=E1.upd (rawS0.nid+1) (.sl none 0 0):=⟨_,rfl⟩
 rw [← hE3] at hle3 hnil g3
 have e3:∀ id,id≠301→E3 id=E1 id:=fun id h=>by rw [hE3]; exact Env.upd_ne _ _ h
 have hb3:lk rawS0.heap 3=some (.cells 158 [.nils,A 148,C64]):=rfl
 rcases g2.heap 3 _ hb3 with ⟨h,_⟩ | ⟨Bq,q1,q2,q3,qv,q4,q5⟩
 ·cases h
 have hq:RL E3 [.sl 301,A 148,C64] qv.toList:=by
  have q5':=q5.mono hle3
  obtain ⟨v,us,e,h1,h2⟩:∃ v us,qv.toList=v::us∧R E3 .nils v∧RL E3 [A 148,C64] us:=by
   simpa only [RL] using q5'
  rw [e]
  refine RL_cons.2 ⟨?_,h2⟩
  simp only [R] at h1
  rw [h1]
  exact hnil
 have g4:=g3.setO (id:=3) (n:=Bq) (b:=.cells 158 [.nils,A 148,C64]) (b':=.cells 158 [.sl 301,A 148,C64]) (by kernel_rfl) rfl (hle3 _ _ q1) (w':=w') (fun k hk=>rfl) rfl rfl rfl rfl ⟨qv,q4,hq⟩
 have g5:=g4.addFact (k:=2) (l:=polCells) ⟨pc'.toList,hpol.mono hle3,rfl⟩
 have hst:addFact { ({ rawS0 with heap:=(rawS0.nid,.opq)::rawS0.heap,sls:=(rawS0.nid+1,.own rawS0.nid 1 (N 0::[N 0,N 0,N 0,A 148]))::rawS0.sls,nid:=rawS0.nid+2 }:SE.St) with heap:=upd ((rawS0.nid,.opq)::rawS0.heap) 3 (.cells 158 [.sl 301,A 148,C64]) } 2 polCells=rawS1:=by kernel_rfl
 have g6:G (Xc pc') (fun _=>False) w E3 rawS1 w':=by rw [← hst]; exact g5
 have g7:=fit_same g6 core_fit core_hgl (core_hZ hp'.fit)
 have E2k:∀ {i j:Nat},isNm ⟨0,renC⟩ i j=true→j≠301→envOf ⟨0,renC⟩ E3 i=E1 j:=fun h hj=>by rw [renC_n h,e3 _ hj]
 have zz:∀ i,i<6→envOf ⟨0,renC⟩ E3 (231+i)=some (.z 0):=fun i hi=>by
  rw [E2k (allRg c_n hi) (by omega)]
  have hz:=allRg raw_z hi
  split at hz
  ·rename_i a b hl
   simp only [Bool.and_eq_true,decide_eq_true_eq] at hz
   obtain ⟨rfl,rfl⟩:=hz
   obtain ⟨z,h1,h2,h3⟩:=g2.tab _ _ _ hl
   rw [h1]
   have:z=0:=by omega
   rw [this]
  ·cases hz
 have z3:∀ i,i<3→envOf ⟨0,renC⟩ E3 (237+i)=some (.z 0):=fun i hi=>isZ_ok (allRg c_z hi) _
 refine ⟨pc',envOf ⟨0,renC⟩ E3,Bc,hp',hsame',g7,⟨⟨zz 0 (by omega),zz 1 (by omega),zz 2 (by omega)⟩,⟨zz 3 (by omega),zz 4 (by omega),zz 5 (by omega)⟩,⟨z3 0 (by omega),z3 1 (by omega),z3 2 (by omega)⟩⟩,?_,?_,?_,?_,?_,fun i hi=>?_⟩
 ·rw [E2k c_1 (by omega)]; exact k1
 ·rw [E2k c_1 (by omega),hE1]; exact renW_n w_1 E
 ·rw [E2k c_2 (by omega),hE1]; exact renW_n w_2 E
 ·rw [E2k c_3 (by omega),hE1]; exact renW_n w_3 E
 ·rw [E2k c_5 (by omega)]; exact g2.dom 300 (Nat.le_refl _)
 ·rw [E2k (allRg c_s hi) (by omega),hE1]; exact renW_n (allRg w_s hi) E
end SE
end
section
namespace SE
open Go.RowKit Mc
variable {X Y:Px} {own0:Nat→Prop} {w0 w w':World} {E E':Env} {st:SE.St} {pc:Array Value}
def cvV:SV→Option Value
 | .int k (.r a b)=>bif decide (a=b) then some (.int k a) else none
 | .nils=>some (.slice none 0 0)
 | .nilp=>some (.pointer none)
 | .ff=>some (.bool false)
 | .tt=>some (.bool true)
 | _=>none
theorem cvV_ok {x:SV} {v u:Value} (h:cvV x=some v) (hr:R E x u):u=v:=by
 unfold cvV at h
 split at h
 ·rename_i k a b
  simp only [cond_eq_ite,decide_eq_true_eq] at h
  split at h
  ·rename_i e
   cases h
   simp only [R,SIok] at hr
   obtain ⟨z,hz,rfl⟩:=hr
   have:z=a:=by omega
   rw [this]
  ·cases h
 ·cases h; simpa only [R] using hr
 ·cases h; simpa only [R] using hr
 ·cases h; simpa only [R] using hr
 ·cases h; simpa only [R] using hr
 ·cases h
def cvL:List SV→Option (List Value)
 | []=>some []
 | x::l=>match cvV x,cvL l with
  | some v,some vs=>some (v::vs)
  | _,_=>none
theorem cvL_ok:∀ {l:List SV} {vs us:List Value},cvL l=some vs→RL E l us→us=vs
 | [],vs,us,h,hr=>by cases h; exact RL_nil.1 hr
 | x::l,vs,us,h,hr=>by
  simp only [RL] at hr
  obtain ⟨u,us',rfl,h1,h2⟩:=hr
  simp only [cvL] at h
  split at h
  ·rename_i v vs' e1 e2
   cases h
   rw [cvV_ok e1 h1,cvL_ok e2 h2]
  ·cases h
theorem cvL_R:∀ {l:List SV} {vs:List Value},cvL l=some vs→(∀ x∈l,∀ v,cvV x=some v→R E x v)→RL E l vs
 | [],vs,h,_=>by cases h; simp [RL]
 | x::l,vs,h,hR=>by
  simp only [cvL] at h
  split at h
  ·rename_i v vs' e1 e2
   cases h
   exact RL_cons.2 ⟨hR _ List.mem_cons_self _ e1,cvL_R e2 fun y hy=>hR y (List.mem_cons_of_mem _ hy)⟩
  ·cases h
theorem cvV_R {x:SV} {v:Value} (h:cvV x=some v):R E x v:=by
 unfold cvV at h
 split at h
 ·rename_i k a b
  simp only [cond_eq_ite,decide_eq_true_eq] at h
  split at h
  ·rename_i e
   cases h
   simp only [R,SIok]
   exact ⟨a,⟨by omega,by omega⟩,rfl⟩
  ·cases h
 ·cases h; simp only [R]
 ·cases h; simp only [R]
 ·cases h; simp only [R]
 ·cases h; simp only [R]
 ·cases h
def deadL:List SV:=[N 4,N 1,N 0,N 0,N 0,N 0,N 2,N 4,N 0,N 2,N 4,N 0,.nils,.nils]++rep 32 (.int .u8 (.r 0 0))
def deadVs:List Value:=[i64 4,i64 1,i64 0,i64 0,i64 0,i64 0,i64 2,i64 4,i64 0,i64 2,i64 4,i64 0,.slice none 0 0,.slice none 0 0]++List.replicate 32 (.int .u8 0)
theorem dead_cv:cvL deadL=some deadVs:=by kernel_rfl
def deadQ:SE.St:=⟨[(1,.ro 71 [.nilp,U (-9223372036854775808) 9223372036854775807,.nilp,.nilp,.nilp])],[],[(2,.bytes (.r 0 120))],10,[]⟩
def evA:List SV:=[.ptr 1 0,.agg [I64,I64,.sl 2,.bool,I64,I64,I64,I64,.bool,.bool]]
def deadO (o:SV×SE.St):Bool:=SV.beq o.1 (.agg deadL)
noncomputable def dead10:Bool:=runO deadO (run (Xw (kL [])).T 60 10 evA deadQ)
theorem dead10_r:dead10=true:=by decide +kernel
def ED (M:Nat) (base:Option Addr) (n c:Nat):Env:=fun id=>if id=1 then some (.blk M) else if id=2 then some (.sl base n c) else none
def isI64 (z:Int):Prop:=-9223372036854775808≤z∧z≤9223372036854775807
theorem RI {z:Int} (h:isI64 z):R E I64 (i64 z):=by
 simp only [I64,R,SIok]
 exact ⟨z,h,rfl⟩
theorem RB' (b:Bool):R E .bool (.bool b):=by
 simp only [R]
 exact ⟨b,rfl⟩
theorem dead_step (hw:GlW w) {M:Nat} (hD:∃ z:Int,isI64 z∧w.heap[M]?=some (.cells #[.pointer none,i64 z,.pointer none,.pointer none,.pointer none] 71 (0,0)))
  {k s x1 x2 x3 x4:Int} {B:Option Addr} {n c:Nat} {v gv b:Bool} (hk:isI64 k) (hs:isI64 s) (h1:isI64 x1) (h2:isI64 x2) (h3:isI64 x3) (h4:isI64 x4)
  (hn:n≤120) (hc:n≤c) (hb:ByteRow w B n) (hB:∀ x,B=some x→x.block<w.heap.size∧x.block≠M) (hMg:∀ cs,glT M≠some cs) :
  Calls Tryz.prog 10 #[.pointer (some ⟨M,0,none⟩),.agg #[i64 k,i64 s,.slice B n c,.bool v,i64 x1,i64 x2,i64 x3,i64 x4,.bool gv,.bool b]] w fun e w' =>
   Below w.heap.size w w'∧e=.returned (.agg deadVs.toArray):=by
 obtain ⟨z,hz,hM⟩:=hD
 have hg:G (Xw (kL [])) (fun _=>False) w (ED M B n c) deadQ w:=by
  refine ⟨Nat.le_refl _,rfl,rfl,rfl,fun n _ _=>rfl,fun id blk hl=>?_,fun id id' b b' n hl hl' _ _=>?_,fun id lo hi hl=>(by simp [deadQ,lk] at hl),fun id i hl=>?_,fun id hid=>?_,fun g cs hg=>?_,fun x hx=>(by cases hx)⟩
  ·have hm:=lk_mem hl
   simp only [deadQ,List.mem_cons,List.not_mem_nil,or_false,Prod.mk.injEq] at hm
   obtain ⟨rfl,rfl⟩:=hm
   refine .inr ⟨M,rfl,(Array.getElem?_eq_some_iff.1 hM).1,.inl rfl,_,hM,?_⟩
   exact RL_cons.2 ⟨by simp only [R],RL_cons.2 ⟨RU hz.1 hz.2,RL_cons.2 ⟨by simp only [R],RL_cons.2 ⟨by simp only [R],RL_cons.2 ⟨by simp only [R],by simp [RL]⟩⟩⟩⟩⟩
  ·have hm:=lk_mem hl
   have hm':=lk_mem hl'
   simp only [deadQ,List.mem_cons,List.not_mem_nil,or_false,Prod.mk.injEq] at hm hm'
   rw [hm.1,hm'.1]
  ·have hm:=lk_mem hl
   simp only [deadQ,List.mem_cons,List.not_mem_nil,or_false,Prod.mk.injEq] at hm
   obtain ⟨rfl,rfl⟩:=hm
   refine ⟨B,n,c,rfl,by simp only [SIok]; omega,hc,hb,fun x hx=>⟨(hB x hx).1,fun bid blk hl' hE=>?_⟩⟩
   have hm':=lk_mem hl'
   simp only [deadQ,List.mem_cons,List.not_mem_nil,or_false,Prod.mk.injEq] at hm'
   rw [hm'.1] at hE
   simp only [ED,if_true,Option.some.injEq,EV.blk.injEq] at hE
   exact (hB x hx).2 hE.symm
  ·have hid:10≤id:=hid
   simp only [ED]
   rw [if_neg (by omega),if_neg (by omega)]
  ·obtain ⟨h1,vs,e,fr,h2,h3⟩:=hw g cs hg
   refine ⟨h1,fun id blk hl' hE=>?_,vs,e,fr,h2,clL_ok (glT_cl g cs hg) h3⟩
   have hm':=lk_mem hl'
   simp only [deadQ,List.mem_cons,List.not_mem_nil,or_false,Prod.mk.injEq] at hm'
   rw [hm'.1] at hE
   simp only [ED,if_true,Option.some.injEq,EV.blk.injEq] at hE
   subst hE
   exact hMg cs hg
 have e:=dead10_r
 unfold dead10 at e
 cases hrun:run (Xw (kL [])).T 60 10 evA deadQ with
 | none=>rw [hrun] at e; cases e
 | some out =>
  rw [hrun] at e
  refine (run_ok (X:=Xw (kL [])) tabw pkw rkw (kok (X:=Xw (kL [])) (ks:=[]) trivial rfl _ w) 60 hrun hg (RL_cons.2 ⟨?_,RL_cons.2 ⟨?_,by simp [RL]⟩⟩)).mono fun e' w' he=>?_
  ·simp only [R]
   exact ⟨M,rfl,rfl⟩
  ·simp only [R]
   refine ⟨_,rfl,?_⟩
   refine RL_cons.2 ⟨RI hk,RL_cons.2 ⟨RI hs,RL_cons.2 ⟨?_,RL_cons.2 ⟨RB' v,RL_cons.2 ⟨RI h1,RL_cons.2 ⟨RI h2,RL_cons.2 ⟨RI h3,RL_cons.2 ⟨RI h4,RL_cons.2 ⟨RB' gv,RL_cons.2 ⟨RB' b,by simp [RL]⟩⟩⟩⟩⟩⟩⟩⟩⟩⟩
   simp only [R]
   exact ⟨B,n,c,rfl,rfl⟩
  ·obtain ⟨o,ho,E',x,h1,rfl,h3,h4⟩:=he
   have hO:=SV.beq_eq _ _ (allO_ok e o ho)
   rw [hO] at h3
   simp only [R] at h3
   obtain ⟨cs,rfl,h3⟩:=h3
   refine ⟨below_of h4,?_⟩
   rw [← cvL_ok dead_cv h3]
theorem dead_told {mo:Int} (hmo:0≤mo):ToldR mo w (.agg deadVs.toArray) []:=by
 refine ⟨deadVs.toArray,.slice none 0 0,none,0,0,rfl,rfl,fun v hv=>?_,⟨4,1,0,0,0,0,rfl,rfl,rfl,rfl,rfl,rfl,by omega,by omega,by omega,by omega,by omega,by omega⟩,rfl,rfl,rfl,Reads.none_,fun r hr=>(by cases hr)⟩
 simp only [deadVs,List.mem_append,List.mem_cons,List.not_mem_nil,or_false,List.mem_replicate] at hv
 rcases hv with (rfl | rfl | rfl | rfl | rfl | rfl | rfl | rfl | rfl | rfl | rfl | rfl | rfl | rfl) | ⟨_,rfl⟩ <;> rfl
end SE
end
section
namespace SE
open Go.RowKit Mc
variable {w0 w w' w00:World} {pc:Array Value}
theorem GlW.belowW (h:GlW w) (hb:Below w.heap.size w w'):GlW w':=by
 intro g cs hg
 obtain ⟨h1,vs,e,fr,h2,h3⟩:=h g cs hg
 exact ⟨Nat.lt_of_lt_of_le h1 hb.size,vs,e,fr,(hb.block g h1).trans h2,h3⟩
end SE
end
section
namespace Mc
open Go.RowKit
section
variable {P:Program} {ops:Array Oper} {o:Oper} {a:Act} {w:World} {Q:Exit→Act→World→Prop} {K:Act→World→Prop} {i:Nat}
theorem wanted_none (hg:o.guard=none) (l:Array Value):Region.wanted o (yielded ops l)=true:=by simp [Region.wanted,hg]
theorem op_val {v:Value} {w':World} (hi:ops[i]?=some o) (hg:o.guard=none) (hrun:(execOp a.eval o).run P w=.ok (.value v) w') (h:K (a.put o.dst v) w'):wpOp P ops Q i K a w:=by
 unfold Go.wpOp
 simp only [hi]
 rw [if_pos (wanted_none hg _)]
 refine .inl ?_
 unfold Oper.wp
 rw [hrun]
 exact h
theorem op_unit {w':World} (hi:ops[i]?=some o) (hg:o.guard=none) (hrun:(execOp a.eval o).run P w=.ok .skip w') (h:K (a.put o.dst undef) w'):wpOp P ops Q i K a w:=by
 unfold Go.wpOp
 simp only [hi]
 rw [if_pos (wanted_none hg _)]
 refine .inl ?_
 unfold Oper.wp
 rw [hrun]
 exact h
theorem op_call {f:FuncId} {args:Array Value} (hi:ops[i]?=some o) (hg:o.guard=none) (hrun:(execOp a.eval o).run P w=.ok (.enter f args) w) (h:Calls P f args w fun e w'=>∃ v,e=.returned v∧K (a.put o.dst v) w'):wpOp P ops Q i K a w:=by
 unfold Go.wpOp
 simp only [hi]
 rw [if_pos (wanted_none hg _)]
 refine .inl ?_
 unfold Oper.wp
 rw [hrun]
 simp only [Oper.upon]
 refine Calls.mono h fun e w'' he=>?_
 obtain ⟨v,rfl,hk⟩:=he
 exact hk
theorem run_rowload {b off n t ty:Nat} {x:Operand} {cs:Array Value} {fr:Nat×Nat} {d:TypeDesc} (ho:o.op=.load ty x) (hx:a.eval x=.pointer (some ⟨b,off,none⟩)) (hg:w.heap[b]?=some (.cells cs t fr))
  (hu:P.underlying ty=some d) (hd:d.isRow=true) (hi:(P.info? ty).map (·.size)=some n) (hle:off+n≤cs.size):(execOp a.eval o).run P w=.ok (.value (.agg ((cs.toList.drop off).take n).toArray)) w:=by
 have hlen:((cs.toList.drop off).take n).length=n:=by
  rw [List.length_take,List.length_drop,Array.length_toList]
  omega
 have:=run_loadAt_mid (P:=P) w b off ty ((cs.toList.drop off).take n) d (fun j v hv=>by
  rw [SE.cell_at hg]
  rw [List.getElem?_take] at hv
  split at hv
  ·rw [List.getElem?_drop] at hv; simpa using hv
  ·cases hv) hu hd (by rw [hlen]; exact hi)
 simp only [execOp,ho,hx,Sem.run_bind,this,Result.andThen_ok,Sem.run_pure]
theorem run_rowstore {b off t ty:Nat} {p x:Operand} {old xs:Array Value} {v:Value} (ho:o.op=.store ty p x) (hp:a.eval p=.pointer (some ⟨b,off,none⟩)) (hx:a.eval x=v) (hxs:v.cells=xs) (hone:∀ u∈xs.toList,u.oneCell'=true)
  (hi:(P.info? ty).map (·.size)=some xs.size) (hg:w.heap[b]?=some (.cells old t (0,0))) (hle:off+xs.size≤old.size) :
  ∃ w',(execOp a.eval o).run P w=.ok .skip w'∧Wr w w' b (spl old.toList off xs.toList).toArray t:=by
 have hst:=run_storeCells_at (P:=P) b off t xs.toList 0 old w hg (by rw [Array.length_toList]; omega) hone
 simp only [Nat.add_zero,Array.length_toList] at hst
 refine ⟨w.setRow b (old.toList.take off++xs.toList++old.toList.drop (off+xs.size)).toArray,?_,by have:=setRow_wr (cs:=(old.toList.take off++xs.toList++old.toList.drop (off+xs.size)).toArray) hg; simpa only [spl,Array.length_toList] using this⟩
 cases hq:P.info? ty with
 | none=>rw [hq] at hi; cases hi
 | some i =>
  have hs:i.size=xs.size:=by simpa [hq] using hi
  simp only [execOp,ho,hp,hx,Instr.storeAt,Instr.sureAddr,storeVar,Sem.run_bind,Sem.run_pure,Result.andThen_ok,SE.size_run hq,hxs]
  rw [if_neg (by simp [hs])]
  simp [hst,Sem.run_bind,Result.andThen]
theorem op_store {b off t ty:Nat} {p x:Operand} {old xs:Array Value} {v:Value} (hi:ops[i]?=some o) (hgd:o.guard=none) (ho:o.op=.store ty p x) (hp:a.eval p=.pointer (some ⟨b,off,none⟩)) (hx:a.eval x=v) (hxs:v.cells=xs) (hone:∀ u∈xs.toList,u.oneCell'=true)
  (hin:(P.info? ty).map (·.size)=some xs.size) (hg:w.heap[b]?=some (.cells old t (0,0))) (hle:off+xs.size≤old.size) (h:∀ w',Wr w w' b (spl old.toList off xs.toList).toArray t→K (a.put o.dst undef) w'):wpOp P ops Q i K a w:=by
 obtain ⟨w',h1,h2⟩:=run_rowstore (P:=P) ho hp hx hxs hone hin hg hle
 exact op_unit hi hgd h1 (h w' h2)
theorem run_assign {x:Operand} {v:Value} (ho:o.op=.assign x) (hv:a.eval x=v):(execOp a.eval o).run P w=.ok (.value v) w:=by
 simp only [execOp,ho,Sem.run_pure,hv]
theorem run_callf {f:FuncId} {fn:Func} {xs:Array Operand} {ts:Array TypeId} {vals:Array Value} (ho:o.op=.call { callee:=.value (.func f),args:=xs,argTypes:=ts }) (hf:P.funcs[f]?=some fn) (hn:fn.name ≠ "runtime.NumGoroutine") (hb:fn.body≠none) (hv:xs.map a.eval=vals) :
  (execOp a.eval o).run P w=.ok (.enter f vals) w:=by
 have hc:(callFunc f vals).run P w=.ok (.enter f vals) w:=by simp [callFunc,hf,hn,hb]
 simp [execOp,ho,resolve,Act.eval,Deferred.ofValue,invoke,hv,hc]
end
end Mc
end
section
namespace SE
open Go.RowKit Mc
variable {w w' w00:World} {pc:Array Value}
theorem pol_info:(Tryz.prog.info? 28).map (·.size)=some 56:=by kernel_rfl
theorem pol_un:∃ d,Tryz.prog.underlying 28=some d∧d.isRow=true:=by
 have h:(Tryz.prog.underlying 28).map (·.isRow)=some true:=by kernel_rfl
 cases hd:Tryz.prog.underlying 28 with
 | none=>rw [hd] at h; cases h
 | some d=>rw [hd] at h; exact ⟨d,rfl,by simpa using h⟩
theorem pol_zero:∃ i z,Tryz.prog.info? 28=some i∧i.zero=some z∧z.cells.size=56:=by
 have h:(Tryz.prog.info? 28).map (fun i=>(i.zero.map fun z=>z.cells.size))=some (some 56):=by kernel_rfl
 cases hi:Tryz.prog.info? 28 with
 | none=>rw [hi] at h; cases h
 | some i =>
  rw [hi] at h
  simp only [Option.map_some,Option.some.injEq] at h
  cases hz:i.zero with
  | none=>rw [hz] at h; cases h
  | some z=>rw [hz] at h; exact ⟨i,z,rfl,hz,by simpa using h⟩
theorem take_all {ps:Array Value} {n:Nat} (h:ps.size=n):((ps.toList.drop 0).take n).toArray=ps:=by
 rw [List.drop_zero,List.take_of_length_le (by simp [h])]
theorem spl_all {old xs:List Value} (h:old.length=xs.length):spl old 0 xs=xs:=by
 unfold spl
 rw [List.take_zero,List.nil_append,List.drop_eq_nil_of_le (by omega),List.append_nil]
theorem row_below {base:Option Addr} {ln:Nat} (h:ByteRow w base ln) (hs:∀ x,base=some x→x.block<w.heap.size) (hb:Below w.heap.size w w'):ByteRow w' base ln:=by
 cases base with
 | none=>exact h
 | some p =>
  obtain ⟨k1,vs,e,fr,k2,k3⟩:=h
  exact ⟨k1,vs,e,fr,(hb.block _ (hs p rfl)).trans k2,k3⟩
theorem PolA.below {ps:Array Value} (h:PolA w ps) (hb:Below w.heap.size w w'):PolA w' ps :=
 ⟨h.len,h.int,fun i hi=>by
  obtain ⟨base,ln,c,h1,h2,h3,h4,h5⟩:=h.key i hi
  exact ⟨base,ln,c,h1,h2,h3,row_below h4 h5 hb,fun x hx=>Nat.lt_of_lt_of_le (h5 x hx) hb.size⟩⟩
theorem PolR.keep {vs:List Value} (h:PolR w vs) (hsz:w.heap.size≤w'.heap.size) (hb:∀ n,(∃ a ln,a.block=n∧1≤ln∧ByteRow w (some a) ln)→w'.heap[n]?=w.heap[n]?):PolR w' vs :=
 ⟨h.len,h.int,fun i hi=>by
  obtain ⟨base,ln,c,h1,h2,h2',h3,h4,h5⟩:=h.key i hi
  refine ⟨base,ln,c,h1,h2,h2',h3,?_,fun x hx=>Nat.lt_of_lt_of_le (h5 x hx) hsz⟩
  cases base with
  | none=>exact h4
  | some p =>
   have h4':=h4
   obtain ⟨k1,vs,e,fr,k2,k3⟩:=h4
   exact ⟨k1,vs,e,fr,(hb p.block ⟨p,ln,rfl,h2,h4'⟩).trans k2,k3⟩,h.perm⟩
theorem no_byte {n:Nat} {cs:Array Value} {t:Nat} {fr:Nat×Nat} (hg:w.heap[n]?=some (.cells cs t fr)) (hno:∀ (i:Nat) (z:Int),cs[i]?≠some (Value.int .u8 z)):¬ ∃ a ln,a.block=n∧1≤ln∧ByteRow w (some a) ln:=by
 rintro ⟨a,ln,rfl,h1,_,vs,e,fr',h2,h3⟩
 obtain ⟨z,_,_,hz⟩:=h3 0 (by omega)
 rw [hg] at h2
 cases h2
 exact hno _ _ hz
theorem results_two {fn:Func} {s b t:Nat} (h:fn.results=#[.tmp s,.cell b t]) {tmps:Array Value} {P:Program} {w:World} {a:Addr} {v:Value} (ha:tmps.getD b undef=.pointer (some a)) (hl:(loadVar t a).run P w=.ok v w):(results fn tmps).run P w=.ok (.tuple #[tmps.getD s undef,v]) w:=by
 unfold results
 rw [h]
 simp only [Array.getD_eq_getD_getElem?] at ha ⊢
 simp [Sem.run_bind,ha,asAddr,hl,Result.andThen]
theorem MInv.keep {δ:Type} {K:δ→Foot→World→Prop} {Bc M:Nat} {d:δ} {MO:Foot} (hk:∀ d O w w',K d O w→Same O w w'→K d O w') (h:MInv K Bc M d MO w) (hS:Same MO w w'):MInv K Bc M d MO w':=by
 obtain ⟨⟨O,g,h1,h2,h3,h4,h5,h6,h7,h8⟩,lt⟩:=h
 exact ⟨⟨O,g,hk _ _ _ _ h1 (hS.mono h6),(hS.cell (a:=⟨M,0,none⟩) h7).trans h2,h3,fun l a b=>(hS.cell (a:=⟨M,l+1,none⟩) h7).trans (h4 l a b),
  h5.keep hS.size (fun l a b n hn=>hS.same n (h8 l a b n hn)) (fun n h=>.inl h) (fun n h=>.inl h),h6,h7,fun l a b n hn=>h8 l a b n (sfoot_same (hS.same _ (h8 l a b _ (.inl rfl))) hn)⟩,fun n hn=>Nat.lt_of_lt_of_le (lt n hn) hS.size⟩
theorem Dead.keep {M:Nat} (h:Dead w M) (hs:w'.heap[M]?=w.heap[M]?):Dead w' M:=by
 obtain ⟨z,hz,hh⟩:=h
 exact ⟨z,hz,hs.trans hh⟩
def MachD (pc:Array Value) (w00:World) (M:Nat) (MO:Foot) (w:World):Option Num→Prop
 | none=>Dead w M∧MO M∧(∀ n,MO n→n<w.heap.size∧w00.heap.size≤n)∧GlW w
 | some d=>∃ (pc':Array Value) (Bc:Nat),PolFit pc'∧(∀ i,i<56→isK i=true→pc'[i]?=pc[i]?)∧MInv (KC pc' w00 Bc) Bc M d MO w
theorem MachD.lt {M:Nat} {MO:Foot} {od:Option Num} (h:MachD pc w00 M MO w od):∀ n,MO n→n<w.heap.size:=by
 cases od with
 | none=>exact fun n hn=>(h.2.2.1 n hn).1
 | some d=>obtain ⟨pc',Bc,h1,h2,h3⟩:=h; exact h3.lt
theorem MachD.keep {M:Nat} {MO:Foot} {od:Option Num} (h:MachD pc w00 M MO w od) (hS:Same MO w w') (hg:GlW w'):MachD pc w00 M MO w' od:=by
 cases od with
 | none =>
  obtain ⟨h1,h2,h3,h4⟩:=h
  exact ⟨h1.keep (hS.same M h2),h2,fun n hn=>⟨Nat.lt_of_lt_of_le (h3 n hn).1 hS.size,(h3 n hn).2⟩,hg⟩
 | some d =>
  obtain ⟨pc',Bc,h1,h2,h3⟩:=h
  exact ⟨pc',Bc,h1,h2,MInv.keep (fun d O w w' h hS=>h.keep hS) h3 hS⟩
theorem wpAny_one {P:Program} {ops:Array Oper} {Q:Exit→Act→World→Prop} {fuel i:Nat} {listed:Array Bool} {a:Act} {w:World} (hr:Region.ready .any ops listed=[i]) (h:wpOp P ops Q i (wpAny P .any ops Q fuel (listed.setIfInBounds i true)) a w):wpAny P .any ops Q (fuel+1) listed a w:=by
 refine ⟨fun h0=>(by rw [hr] at h0; cases h0),fun j hj=>?_⟩
 rw [hr,List.mem_singleton] at hj
 subst hj
 exact h
theorem wpAny_two {P:Program} {ops:Array Oper} {Q:Exit→Act→World→Prop} {fuel i j:Nat} {listed:Array Bool} {a:Act} {w:World} (hr:Region.ready .any ops listed=[i,j]) (h:wpOp P ops Q i (wpAny P .any ops Q fuel (listed.setIfInBounds i true)) a w)
  (h':wpOp P ops Q j (wpAny P .any ops Q fuel (listed.setIfInBounds j true)) a w):wpAny P .any ops Q (fuel+1) listed a w:=by
 refine ⟨fun h0=>(by rw [hr] at h0; cases h0),fun k hk=>?_⟩
 rw [hr] at hk
 simp only [List.mem_cons,List.not_mem_nil,or_false] at hk
 rcases hk with rfl | rfl
 ·exact h
 ·exact h'
theorem wpAny_end {P:Program} {ops:Array Oper} {Q:Exit→Act→World→Prop} {listed:Array Bool} {a:Act} {w:World} (hr:Region.ready .any ops listed=[]) (h:Q .normal a w):wpAny P .any ops Q 0 listed a w:=⟨hr,h⟩
theorem sh_spl {ps:Array Value} {old:Array Value} (h:old.size=56) (hp:ps.size=56):(spl old.toList 0 ps.toList).toArray=ps:=by
 rw [spl_all (by simp [h,hp])]
theorem polR_one {pc:Array Value} (h:PolR w pc.toList):∀ u∈pc.toList,u.oneCell'=true:=by
 intro u hu
 obtain ⟨i,hi,e⟩:=List.getElem_of_mem hu
 have hl:=h.len
 have hg:pc.toList[i]?=some u:=by rw [List.getElem?_eq_getElem hi,e]
 cases hk:isK i with
 | true =>
  have hz:=(h.fit.ok.2 i (by omega) (isK_ok hk))
  rw [show pc[i]?=pc.toList[i]? by simp,hg] at hz
  cases hz
  rfl
 | false =>
  obtain ⟨k1,k2⟩:=isK_no hk
  obtain ⟨base,ln,c,h1,_⟩:=h.key (i - 5) (by omega)
  rw [show 5+(i - 5)=i by omega,hg] at h1
  cases h1
  rfl
theorem body17:Tryz.f17.body≠none:=by
 have h:Tryz.f17.body.isSome=true:=by kernel_rfl
 intro e
 rw [e] at h
 cases h
theorem name17:Tryz.f17.name ≠ "runtime.NumGoroutine" := by
 have h:(Tryz.f17.name == "runtime.NumGoroutine")=false:=by kernel_rfl
 intro e
 rw [e] at h
 cases h
end SE
end
section
namespace In
variable {H:Type} {enc:TypeId×Value→H} {P:Program} {W:World} {base:Nat} {spare:Nat→Bool} {held:Bool}
def leaf (P:Program):Nat→TypeId→Nat→Option TypeId
 | 0,_,_=>none
 | f+1,t,i=>match P.underlying t with
  | some (.struct fs)=>(fs.toList.find? fun g=>decide (g.offset≤i)&&decide (i<g.offset+P.cellsOf g.type)).bind fun g=>leaf P f g.type (i - g.offset)
  | some (.array n e)=>if i<n*P.cellsOf e then leaf P f e (i % P.cellsOf e) else none
  | some .bool | some (.int _) | some (.slice _)=>if i=0 then some t else none
  | _=>none
theorem mapM_mem {α β:Type} {f:α→Option β}:∀ {l:List α} {r:List β},l.mapM f=some r→∀ x∈l,∃ y,f x=some y:=by
 intro l
 induction l with
 | nil=>intro r h x hx; cases hx
 | cons a al ih =>
  intro r h x hx
  rw [List.mapM_cons] at h
  cases ha:f a with
  | none=>simp [ha] at h
  | some y =>
   cases has:al.mapM f with
   | none=>simp [ha,has] at h
   | some ys =>
    rcases List.mem_cons.1 hx with rfl | hx
    ·exact ⟨y,ha⟩
    ·exact ih has x hx
theorem sub_get {cs:List Value} {off n i:Nat} {v:Value} (h:((cs.drop off).take n)[i]?=some v):cs[off+i]?=some v:=by
 rw [List.getElem?_take] at h
 split at h
 ·rw [List.getElem?_drop] at h; exact h
 ·cases h
theorem leaf_trod:∀ (f t i u:Nat) (cs:List Value) (fuel:Nat) (x:DataW H×List MemPlace),leaf P f t i=some u→DataW.trod enc P W base spare held fuel t cs=some x →
  ∃ v fuel' x',cs[i]?=some v∧DataW.trod enc P W base spare held fuel' u [v]=some x'
 | 0,t,i,u,cs,fuel,x,h,hf=>by simp [leaf] at h
 | f+1,t,i,u,cs,0,x,h,hf=>by simp [DataW.trod] at hf
 | f+1,t,i,u,cs,fuel+1,x,h,hf=>by
  have hf':=hf
  rw [DataW.trod_step] at hf
  unfold leaf at h
  unfold DataW.trodStep at hf
  cases hu:P.underlying t with
  | none=>rw [hu] at h; cases h
  | some d =>
   rw [hu] at h hf
   cases d <;> try (cases h; done)
   case bool =>
    simp only at h hf
    split at h
    ·rename_i h0
     cases h
     subst h0
     split at hf <;> try (first | (cases hf; done) | (rename_i e1 e2; cases e1; done) | (rename_i e1; cases e1; done))
     all_goals (first | exact ⟨_,_,_,rfl,hf'⟩ | simp_all)
    ·cases h
   case int k =>
    simp only at h hf
    split at h
    ·rename_i h0
     cases h
     subst h0
     split at hf <;> try (first | (cases hf; done) | (rename_i e1 e2; cases e1; done) | (rename_i e1; cases e1; done))
     all_goals (first | exact ⟨_,_,_,rfl,hf'⟩ | simp_all)
    ·cases h
   case slice e =>
    simp only at h hf
    split at h
    ·rename_i h0
     cases h
     subst h0
     split at hf <;> try (first | (cases hf; done) | (rename_i e1 e2; cases e1; done) | (rename_i e1; cases e1; done))
     all_goals (first | exact ⟨_,_,_,rfl,hf'⟩ | simp_all)
    ·cases h
   case struct fs =>
    simp only at h
    obtain ⟨g,hg,hl⟩:=Option.bind_eq_some_iff.1 h
    have hm:=List.mem_of_find?_eq_some hg
    have hb:=List.find?_some hg
    simp only [Bool.and_eq_true,decide_eq_true_eq] at hb
    have hf2:(fs.toList.mapM fun f=>DataW.trod enc P W base spare held fuel f.type ((cs.drop f.offset).take (P.cellsOf f.type))).isSome=true:=by
     split at hf <;> simp_all
     all_goals (obtain ⟨_,a,ha,_⟩:=hf; rw [ha]; rfl)
    obtain ⟨xs,hxs⟩:=Option.isSome_iff_exists.1 hf2
    obtain ⟨y,hy⟩:=mapM_mem hxs g hm
    obtain ⟨v,fuel',x',h1,h2⟩:=leaf_trod f g.type (i - g.offset) u _ fuel y hl hy
    refine ⟨v,fuel',x',?_,h2⟩
    have:=sub_get h1
    rwa [show g.offset+(i - g.offset)=i by omega] at this
   case array n e =>
    simp only at h
    split at h
    ·rename_i hlt
     have hc:0<P.cellsOf e:=by
      rcases Nat.eq_zero_or_pos (P.cellsOf e) with h0 | h0
      ·rw [h0] at hlt; omega
      ·exact h0
     have hf2:((List.range n).mapM fun i=>DataW.trod enc P W base spare held fuel e ((cs.drop (i*P.cellsOf e)).take (P.cellsOf e))).isSome=true:=by
      split at hf <;> simp_all
      all_goals (obtain ⟨_,a,ha,_⟩:=hf; rw [ha]; rfl)
     obtain ⟨xs,hxs⟩:=Option.isSome_iff_exists.1 hf2
     obtain ⟨y,hy⟩:=mapM_mem hxs (i / P.cellsOf e) (List.mem_range.2 ((Nat.div_lt_iff_lt_mul hc).2 hlt))
     obtain ⟨v,fuel',x',h1,h2⟩:=leaf_trod f e (i % P.cellsOf e) u _ fuel y h hy
     refine ⟨v,fuel',x',?_,h2⟩
     have:=sub_get h1
     rwa [show i / P.cellsOf e*P.cellsOf e+i % P.cellsOf e=i by rw [Nat.mul_comm]; exact Nat.div_add_mod i _] at this
    ·cases h
theorem trod_int {t:TypeId} {k:IntKind} {v:Value} {fuel:Nat} {x:DataW H×List MemPlace} (hu:P.underlying t=some (.int k)) (h:DataW.trod enc P W base spare held fuel t [v]=some x):∃ z,v=.int k z∧(Lit.int k z).wf=true:=by
 cases fuel with
 | zero=>simp [DataW.trod] at h
 | succ fuel =>
  rw [DataW.trod_step] at h
  unfold DataW.trodStep at h
  rw [hu] at h
  cases v <;> simp at h
  rename_i k' n
  obtain ⟨⟨rfl,h1⟩,_⟩:=h
  exact ⟨n,rfl,h1⟩
theorem trod_bool {t:TypeId} {v:Value} {fuel:Nat} {x:DataW H×List MemPlace} (hu:P.underlying t=some .bool) (h:DataW.trod enc P W base spare held fuel t [v]=some x):∃ b,v=.bool b:=by
 cases fuel with
 | zero=>simp [DataW.trod] at h
 | succ fuel =>
  rw [DataW.trod_step] at h
  unfold DataW.trodStep at h
  rw [hu] at h
  cases v <;> simp at h
  exact ⟨_,rfl⟩
theorem cells_get {a:Addr} {n:Nat} {cs:List Value} (h:W.cells? base a n=some cs):cs.length=n∧∀ j v,cs[j]?=some v→W.cell? (a.add j)=some v:=by
 unfold World.cells? at h
 split at h
 ·have key:∀ (l:List Nat) (r:List Value),(l.mapM fun i=>W.cell? (a.add i))=some r→r.length=l.length∧∀ (j:Nat) (v:Value),r[j]?=some v→∃ i,l[j]?=some i∧W.cell? (a.add i)=some v:=by
   intro l
   induction l with
   | nil=>intro r h; simp at h; subst h; exact ⟨rfl,fun j v h=>by simp at h⟩
   | cons x xs ih =>
    intro r h
    rw [List.mapM_cons] at h
    cases hx:W.cell? (a.add x) with
    | none=>simp [hx] at h
    | some y =>
     cases hxs:xs.mapM (fun i=>W.cell? (a.add i)) with
     | none=>simp [hx,hxs] at h
     | some ys =>
      simp [hx,hxs] at h
      subst h
      obtain ⟨h1,h2⟩:=ih ys hxs
      refine ⟨by simp [h1],fun j v hj=>?_⟩
      cases j with
      | zero=>simp at hj; subst hj; exact ⟨x,rfl,hx⟩
      | succ j=>simp at hj; simpa using h2 j v hj
  obtain ⟨h1,h2⟩:=key _ _ h
  refine ⟨by simpa using h1,fun j v hj=>?_⟩
  obtain ⟨i,hi,hc⟩:=h2 j v hj
  obtain ⟨hlt,he⟩:=List.getElem?_eq_some_iff.1 hi
  rw [List.getElem_range] at he
  subst he
  exact hc
 ·cases h
theorem trod_slice {t e:TypeId} {v:Value} {fuel:Nat} {x:DataW H×List MemPlace} (hu:P.underlying t=some (.slice e)) (h:DataW.trod enc P W base spare held fuel t [v]=some x) :
  v=.slice none 0 0∨∃ a len cap,v=.slice (some a) len cap∧len≤cap∧cap≤maxLen∧∀ i,i<len→∃ cs fuel' y,W.cells? base (a.add (i*P.cellsOf e)) (P.cellsOf e)=some cs∧DataW.trod enc P W base spare held fuel' e cs=some y:=by
 cases fuel with
 | zero=>simp [DataW.trod] at h
 | succ fuel =>
  rw [DataW.trod_step] at h
  unfold DataW.trodStep at h
  rw [hu] at h
  simp only at h
  split at h <;> try (first | (cases h; done) | (rename_i q; cases q; done) | (rename_i e1 e2; cases e1; done))
  ·rename_i h2; simp only [List.cons.injEq,and_true] at h2; exact .inl h2
  ·rename_i e' a len cap h1 h2
   cases h1
   simp only [List.cons.injEq,and_true] at h2
   subst h2
   refine .inr ⟨a,len,cap,rfl,?_⟩
   split at h
   ·rename_i hc
    refine ⟨hc.2.1,hc.2.2,fun i hi=>?_⟩
    obtain ⟨xs,hxs,_⟩:=Option.bind_eq_some_iff.1 h
    obtain ⟨y,hy⟩:=mapM_mem hxs i (List.mem_range.2 hi)
    obtain ⟨cs,h3,h4⟩:=Option.bind_eq_some_iff.1 hy
    exact ⟨cs,fuel,y,h3,h4⟩
   ·cases h
end In
end
section
namespace In
open SE (ByteRow i64)
variable {H:Type} {enc:TypeId×Value→H} {W:World} {spare:Nat→Bool} {held:Bool}
def inI (z:Int):Prop:=-9223372036854775808≤z∧z≤9223372036854775807
theorem byte_cells:Tryz.prog.cellsOf 5=1:=by kernel_rfl
theorem wf_i64 {z:Int} (h:(Lit.int .i64 z).wf=true):inI z:=by
 simp only [Lit.wf,Bool.and_eq_true,decide_eq_true_eq] at h
 exact h
theorem wf_u8 {z:Int} (h:(Lit.int .u8 z).wf=true):0≤z∧z≤255:=by
 simp only [Lit.wf,Bool.and_eq_true,decide_eq_true_eq] at h
 exact h
theorem cell_obj {w:World} {a:Addr} {v:Value} (h:w.cell? a=some v):a.spot=none∧∃ vs e fr,w.heap[a.block]?=some (.cells vs e fr)∧vs[a.off]?=some v:=by
 unfold World.cell? at h
 split at h
 ·rename_i vs e fr hg
  split at h
  ·cases h
  ·rename_i hs
   refine ⟨by simpa using hs,vs,e,fr,hg,h⟩
 ·cases h
theorem add_at {a:Addr} (h:a.spot=none) (n:Nat):a.add n=⟨a.block,a.off+n,none⟩:=by
 cases a with
 | mk b o s =>
  cases h
  unfold Addr.add
  split
  ·rename_i e; subst e; rfl
  ·rfl
theorem bytes_trod {base len cap:Nat} {a:Addr} {fuel:Nat} {x:DataW H×List MemPlace} (h:DataW.trod enc Tryz.prog W base spare held fuel 23 [.slice (some a) len cap]=some x) :
  len≤cap∧cap≤maxLen∧∀ i,i<len→∃ z:Int,0≤z∧z≤255∧W.cell? (a.add i)=some (.int .u8 z):=by
 rcases trod_slice Tryz.underlying23 h with h | ⟨a',l,c,e,h1,h2,h3⟩
 ·cases h
 ·cases e
  refine ⟨h1,h2,fun i hi=>?_⟩
  obtain ⟨cs,f',y,h4,h5⟩:=h3 i hi
  rw [byte_cells,Nat.mul_one] at h4
  obtain ⟨h6,h7⟩:=cells_get h4
  match cs,h6 with
  | [v],_ =>
   obtain ⟨z,rfl,hz⟩:=trod_int Tryz.underlying5 h5
   have:=h7 0 _ rfl
   rw [add_of_add,Nat.add_zero] at this
   exact ⟨z,(wf_u8 hz).1,(wf_u8 hz).2,this⟩
theorem has_obj {r:Reach} {base n:Nat} {a:Addr} {e:TypeId} (h:W.has Tryz.prog r base a e n):a.spot=none∧∃ vs t fr,W.heap[a.block]?=some (.cells vs t fr):=by
 obtain ⟨_,h1,row,cells,h2,_⟩:=h
 refine ⟨h1,?_⟩
 unfold World.shape? at h2
 split at h2
 ·rename_i vs t fr hg; exact ⟨vs,t,fr,hg⟩
 ·cases h2
theorem ev_leaf:((List.range 10).all fun i=>leaf Tryz.prog 6 48 i == some (if i == 2 then 23 else if i == 3||i == 8||i == 9 then 4 else 3))=true:=by kernel_rfl
theorem ev_cells:Tryz.prog.cellsOf 48=10:=by kernel_rfl
structure Ev where
 k:Int
 s:Int
 B:Option Addr
 n:Nat
 c:Nat
 v:Bool
 x1:Int
 x2:Int
 x3:Int
 x4:Int
 g:Bool
 b:Bool
instance:Inhabited Ev:=⟨⟨0,0,none,0,0,false,0,0,0,0,false,false⟩⟩
def Ev.cells (e:Ev):List Value:=[i64 e.k,i64 e.s,.slice e.B e.n e.c,.bool e.v,i64 e.x1,i64 e.x2,i64 e.x3,i64 e.x4,.bool e.g,.bool e.b]
structure Ev.Ok (e:Ev) (w:World):Prop where
 k:inI e.k
 s:inI e.s
 x1:inI e.x1
 x2:inI e.x2
 x3:inI e.x3
 x4:inI e.x4
 le:e.n≤e.c
 mx:e.c≤maxLen
 rd:∃ x:List UInt8,Reads w w.heap.size 1 e.B e.n (x.map bv)
def EvsIn (w:World) (b:Option Addr) (n c:Nat):Prop:=n≤c∧c≤maxLen∧∃ es:List Ev,es.length=n∧(∀ e∈es,e.Ok w)∧Reads w w.heap.size 10 b n (es.flatMap Ev.cells)
theorem leaf_int {i:Nat} {cs:List Value} {fuel:Nat} {x:DataW H×List MemPlace} (hl:leaf Tryz.prog 6 48 i=some 3) (h:DataW.trod enc Tryz.prog W 0 spare held fuel 48 cs=some x):∃ z,cs[i]?=some (i64 z)∧inI z:=by
 obtain ⟨v,f',x',h1,h2⟩:=leaf_trod 6 48 i 3 _ fuel x hl h
 obtain ⟨z,rfl,hz⟩:=trod_int Tryz.underlying3 h2
 exact ⟨z,h1,wf_i64 hz⟩
theorem leaf_bool {i:Nat} {cs:List Value} {fuel:Nat} {x:DataW H×List MemPlace} (hl:leaf Tryz.prog 6 48 i=some 4) (h:DataW.trod enc Tryz.prog W 0 spare held fuel 48 cs=some x):∃ b,cs[i]?=some (.bool b):=by
 obtain ⟨v,f',x',h1,h2⟩:=leaf_trod 6 48 i 4 _ fuel x hl h
 obtain ⟨z,rfl⟩:=trod_bool Tryz.underlying4 h2
 exact ⟨z,h1⟩
theorem lf {i u:Nat} (hi:i<10) (hu:(if i == 2 then 23 else if i == 3||i == 8||i == 9 then 4 else 3)=u):leaf Tryz.prog 6 48 i=some u:=by
 have:=List.all_eq_true.1 ev_leaf i (List.mem_range.2 hi)
 rw [hu] at this
 simpa using this
theorem ev_in {cs:List Value} {fuel:Nat} {x:DataW H×List MemPlace} (hlen:cs.length=10) (h:DataW.trod enc Tryz.prog W 0 spare held fuel 48 cs=some x):∃ e:Ev,cs=e.cells∧e.Ok W:=by
 obtain ⟨k,h0,k0⟩:=leaf_int (lf (i:=0) (by omega) rfl) h
 obtain ⟨s,h1,k1⟩:=leaf_int (lf (i:=1) (by omega) rfl) h
 obtain ⟨v,h3⟩:=leaf_bool (lf (i:=3) (by omega) rfl) h
 obtain ⟨x1,h4,k4⟩:=leaf_int (lf (i:=4) (by omega) rfl) h
 obtain ⟨x2,h5,k5⟩:=leaf_int (lf (i:=5) (by omega) rfl) h
 obtain ⟨x3,h6,k6⟩:=leaf_int (lf (i:=6) (by omega) rfl) h
 obtain ⟨x4,h7,k7⟩:=leaf_int (lf (i:=7) (by omega) rfl) h
 obtain ⟨g,h8⟩:=leaf_bool (lf (i:=8) (by omega) rfl) h
 obtain ⟨b,h9⟩:=leaf_bool (lf (i:=9) (by omega) rfl) h
 obtain ⟨u,f',x',h2,q2⟩:=leaf_trod 6 48 2 23 _ fuel x (lf (by omega) rfl) h
 have key:∃ B n c,u=.slice B n c∧n≤c∧c≤maxLen∧∃ x:List UInt8,Reads W W.heap.size 1 B n (x.map bv):=by
  rcases trod_slice Tryz.underlying23 q2 with rfl | ⟨a,n,c,rfl,e1,e2,_⟩
  ·exact ⟨none,0,0,rfl,Nat.le_refl _,Nat.zero_le _,[],Reads.none_⟩
  ·obtain ⟨_,_,hb⟩:=bytes_trod q2
   refine ⟨some a,n,c,rfl,e1,e2,?_⟩
   have hb':∀ i,i<n→∃ y:UInt8,W.cell? (a.add i)=some (bv y):=fun i hi=>by
    obtain ⟨z,z1,z2,z3⟩:=hb i hi
    refine ⟨UInt8.ofNat z.toNat,?_⟩
    rw [z3]
    have:(UInt8.ofNat z.toNat).toNat=z.toNat:=by
     rw [UInt8.toNat_ofNat']
     omega
    simp only [bv,this]
    rw [Int.toNat_of_nonneg z1]
   obtain ⟨f,hf⟩:=Go.Deep.choose_lt hb'
   refine ⟨(List.range n).map f,by simp,fun hn=>⟨a,rfl,?_,?_⟩⟩
   ·have:=World.block_lt_of_cell? W _ (hf 0 hn)
    rwa [block_of_add] at this
   ·intro j u hu
    rw [List.getElem?_map,List.getElem?_map] at hu
    rcases Nat.lt_or_ge j n with hj | hj
    ·rw [List.getElem?_range hj] at hu
     simp only [Option.map_some,Option.some.injEq] at hu
     rw [← hu]
     exact hf j hj
    ·rw [List.getElem?_eq_none (by simpa using hj)] at hu
     cases hu
 obtain ⟨B,n,c,rfl,r1,r2,r3⟩:=key
 match cs,hlen with
 | [y0,y1,y2,y3,y4,y5,y6,y7,y8,y9],_ =>
  simp at h0 h1 h2 h3 h4 h5 h6 h7 h8 h9
  subst h0 h1 h2 h3 h4 h5 h6 h7 h8 h9
  exact ⟨⟨k,s,B,n,c,v,x1,x2,x3,x4,g,b⟩,rfl,k0,k1,k4,k5,k6,k7,r1,r2,r3⟩
theorem flat_len {es:List Ev}:(es.flatMap Ev.cells).length=es.length*10:=by
 induction es with
 | nil=>rfl
 | cons e es ih=>simp only [List.flatMap_cons,List.length_append,ih,Ev.cells,List.length_cons,List.length_nil]; omega
theorem flat_get {es:List Ev} {i j:Nat} {e:Ev} (h:es[i]?=some e) (hj:j<10):(es.flatMap Ev.cells)[i*10+j]?=e.cells[j]?:=by
 induction es generalizing i with
 | nil=>simp at h
 | cons a es ih =>
  have hl:a.cells.length=10:=rfl
  cases i with
  | zero =>
   simp at h
   subst h
   rw [List.flatMap_cons,List.getElem?_append_left (by omega),Nat.zero_mul,Nat.zero_add]
  | succ i =>
   simp at h
   rw [List.flatMap_cons,List.getElem?_append_right (by omega),← ih h]
   congr 1
   omega
theorem evs_in {base:Nat} {v:Value} {fuel:Nat} {x:DataW H×List MemPlace} (hok:Value.okWide Tryz.prog W .any base 29 v) (h:DataW.trod enc Tryz.prog W 0 spare held fuel 29 v.cells.toList=some x) :
  ∃ b n c,v=.slice b n c∧EvsIn W b n c:=by
 obtain ⟨b,n,c,rfl⟩:=Go.WideShapes.okWide_slice Tryz.underlying29 hok
 refine ⟨b,n,c,rfl,?_⟩
 rcases trod_slice Tryz.underlying29 (v:=.slice b n c) (by simpa [Value.cells] using h) with h | ⟨a,n',c',h,h1,h2,h3⟩
 ·cases h
  exact ⟨Nat.le_refl _,Nat.zero_le _,[],rfl,(fun e he=>by cases he),Reads.none_⟩
 ·cases h
  have each:∀ i,i<n→∃ e:Ev,e.Ok W∧∀ j u,e.cells[j]?=some u→W.cell? (a.add (i*10+j))=some u:=fun i hi=>by
   obtain ⟨cs,f',y,q1,q2⟩:=h3 i hi
   rw [ev_cells] at q1
   obtain ⟨q3,q4⟩:=cells_get q1
   obtain ⟨e,rfl,he⟩:=ev_in q3 q2
   refine ⟨e,he,fun j u hu=>?_⟩
   have:=q4 j u hu
   rwa [add_of_add] at this
  obtain ⟨f,hf⟩:=Go.Deep.choose_lt each
  have hget:∀ i,i<n→((List.range n).map f)[i]?=some (f i):=fun i hi=>by
   rw [List.getElem?_map,List.getElem?_range hi]
   rfl
  refine ⟨h1,h2,(List.range n).map f,by simp,fun e he=>?_,by rw [flat_len]; simp,fun hn=>⟨a,rfl,?_,?_⟩⟩
  ·obtain ⟨i,hi,rfl⟩:=List.mem_map.1 he
   exact (hf i (List.mem_range.1 hi)).1
  ·have:=World.block_lt_of_cell? W _ ((hf 0 hn).2 0 _ rfl)
   rwa [block_of_add] at this
  ·intro j u hu
   have hlt:j<n*10:=by
    have:=(List.getElem?_eq_some_iff.1 hu).1
    rw [flat_len] at this
    simpa using this
   have hi:j / 10<n:=by omega
   have:=flat_get (hget (j / 10) hi) (j:=j % 10) (by omega)
   rw [show j / 10*10+j % 10=j by omega,hu] at this
   have h:=(hf (j / 10) hi).2 (j % 10) u this.symm
   rwa [show j / 10*10+j % 10=j by omega] at h
end In
end
end Go.Proofs.YtdgejnakakjgfaaGreatDoor
