/- A machine of a policy that was made one that may be. What comes in: the cells of structures, the elements of slices. What comes in: events. few: events, copied. A machine, dead or alive, as a law sees it: its steps. What a law keeps while it goes over its events. The head of the laws: the run of the zero policy. -/
import Derived.Test.YtdgejnakakjgfaaGreatDoorR35
import Derived.Test.YtdgejnakakjgfaaGreatDoorR07
import Derived.Test.YtdgejnakakjgfaaGreatDoorR34
import Derived.ChangeReads
import Derived.KernelRfl
import Derived.OpenShut
import Derived.Deep.Slices
set_option linter.unusedVariables false
set_option linter.unusedSimpArgs false
set_option maxRecDepth 100000
namespace Go.Proofs.YtdgejnakakjgfaaGreatDoor
section
namespace SE
open Go.RowKit Mc
variable {w w' w00:World} {pc:Array Value}
theorem pol_info:(Tryz.prog.info? 28).map (·.size)=some 56:=by kernel_rfl
theorem pol_un:∃ d,Tryz.prog.underlying 28=some d∧d.isRow=true:=by
 have h:(Tryz.prog.underlying 28).map (·.isRow)=some true:=by kernel_rfl
 cases hd:Tryz.prog.underlying 28 with
 | none=>rw [hd] at h; cases h
 | some d=>rw [hd] at h; exact ⟨d,rfl,by simpa using h⟩
theorem pol_zero:∃ i z,Tryz.prog.info? 28=some i∧i.zero=some z∧z.cells.size=56:=by
 have h:(Tryz.prog.info? 28).map (fun i=>(i.zero.map fun z=>z.cells.size))=some (some 56):=by kernel_rfl
 cases hi:Tryz.prog.info? 28 with
 | none=>rw [hi] at h; cases h
 | some i =>
  rw [hi] at h
  simp only [Option.map_some,Option.some.injEq] at h
  cases hz:i.zero with
  | none=>rw [hz] at h; cases h
  | some z=>rw [hz] at h; exact ⟨i,z,rfl,hz,by simpa using h⟩
theorem take_all {ps:Array Value} {n:Nat} (h:ps.size=n):((ps.toList.drop 0).take n).toArray=ps:=by
 rw [List.drop_zero,List.take_of_length_le (by simp [h])]
theorem spl_all {old xs:List Value} (h:old.length=xs.length):spl old 0 xs=xs:=by
 unfold spl
 rw [List.take_zero,List.nil_append,List.drop_eq_nil_of_le (by omega),List.append_nil]
theorem row_below {base:Option Addr} {ln:Nat} (h:ByteRow w base ln) (hs:∀ x,base=some x→x.block<w.heap.size) (hb:Below w.heap.size w w'):ByteRow w' base ln:=by
 cases base with
 | none=>exact h
 | some p =>
  obtain ⟨k1,vs,e,fr,k2,k3⟩:=h
  exact ⟨k1,vs,e,fr,(hb.block _ (hs p rfl)).trans k2,k3⟩
theorem PolA.below {ps:Array Value} (h:PolA w ps) (hb:Below w.heap.size w w'):PolA w' ps :=
 ⟨h.len,h.int,fun i hi=>by
  obtain ⟨base,ln,c,h1,h2,h3,h4,h5⟩:=h.key i hi
  exact ⟨base,ln,c,h1,h2,h3,row_below h4 h5 hb,fun x hx=>Nat.lt_of_lt_of_le (h5 x hx) hb.size⟩⟩
theorem PolR.keep {vs:List Value} (h:PolR w vs) (hsz:w.heap.size≤w'.heap.size) (hb:∀ n,(∃ a ln,a.block=n∧1≤ln∧ByteRow w (some a) ln)→w'.heap[n]?=w.heap[n]?):PolR w' vs :=
 ⟨h.len,h.int,fun i hi=>by
  obtain ⟨base,ln,c,h1,h2,h2',h3,h4,h5⟩:=h.key i hi
  refine ⟨base,ln,c,h1,h2,h2',h3,?_,fun x hx=>Nat.lt_of_lt_of_le (h5 x hx) hsz⟩
  cases base with
  | none=>exact h4
  | some p =>
   have h4':=h4
   obtain ⟨k1,vs,e,fr,k2,k3⟩:=h4
   exact ⟨k1,vs,e,fr,(hb p.block ⟨p,ln,rfl,h2,h4'⟩).trans k2,k3⟩,h.perm⟩
theorem no_byte {n:Nat} {cs:Array Value} {t:Nat} {fr:Nat×Nat} (hg:w.heap[n]?=some (.cells cs t fr)) (hno:∀ (i:Nat) (z:Int),cs[i]?≠some (Value.int .u8 z)):¬ ∃ a ln,a.block=n∧1≤ln∧ByteRow w (some a) ln:=by
 rintro ⟨a,ln,rfl,h1,_,vs,e,fr',h2,h3⟩
 obtain ⟨z,_,_,hz⟩:=h3 0 (by omega)
 rw [hg] at h2
 cases h2
 exact hno _ _ hz
theorem results_two {fn:Func} {s b t:Nat} (h:fn.results=#[.tmp s,.cell b t]) {tmps:Array Value} {P:Program} {w:World} {a:Addr} {v:Value} (ha:tmps.getD b undef=.pointer (some a)) (hl:(loadVar t a).run P w=.ok v w):(results fn tmps).run P w=.ok (.tuple #[tmps.getD s undef,v]) w:=by
 unfold results
 rw [h]
 simp only [Array.getD_eq_getD_getElem?] at ha ⊢
 simp [Sem.run_bind,ha,asAddr,hl,Result.andThen]
theorem MInv.keep {δ:Type} {K:δ→Foot→World→Prop} {Bc M:Nat} {d:δ} {MO:Foot} (hk:∀ d O w w',K d O w→Same O w w'→K d O w') (h:MInv K Bc M d MO w) (hS:Same MO w w'):MInv K Bc M d MO w':=by
 obtain ⟨⟨O,g,h1,h2,h3,h4,h5,h6,h7,h8⟩,lt⟩:=h
 exact ⟨⟨O,g,hk _ _ _ _ h1 (hS.mono h6),(hS.cell (a:=⟨M,0,none⟩) h7).trans h2,h3,fun l a b=>(hS.cell (a:=⟨M,l+1,none⟩) h7).trans (h4 l a b),
  h5.keep hS.size (fun l a b n hn=>hS.same n (h8 l a b n hn)) (fun n h=>.inl h) (fun n h=>.inl h),h6,h7,fun l a b n hn=>h8 l a b n (sfoot_same (hS.same _ (h8 l a b _ (.inl rfl))) hn)⟩,fun n hn=>Nat.lt_of_lt_of_le (lt n hn) hS.size⟩
theorem Dead.keep {M:Nat} (h:Dead w M) (hs:w'.heap[M]?=w.heap[M]?):Dead w' M:=by
 obtain ⟨z,hz,hh⟩:=h
 exact ⟨z,hz,hs.trans hh⟩
def MachD (pc:Array Value) (w00:World) (M:Nat) (MO:Foot) (w:World):Option Num→Prop
 | none=>Dead w M∧MO M∧(∀ n,MO n→n<w.heap.size∧w00.heap.size≤n)∧GlW w
 | some d=>∃ (pc':Array Value) (Bc:Nat),PolFit pc'∧(∀ i,i<56→isK i=true→pc'[i]?=pc[i]?)∧MInv (KC pc' w00 Bc) Bc M d MO w
theorem MachD.lt {M:Nat} {MO:Foot} {od:Option Num} (h:MachD pc w00 M MO w od):∀ n,MO n→n<w.heap.size:=by
 cases od with
 | none=>exact fun n hn=>(h.2.2.1 n hn).1
 | some d=>obtain ⟨pc',Bc,h1,h2,h3⟩:=h; exact h3.lt
theorem MachD.keep {M:Nat} {MO:Foot} {od:Option Num} (h:MachD pc w00 M MO w od) (hS:Same MO w w') (hg:GlW w'):MachD pc w00 M MO w' od:=by
 cases od with
 | none =>
  obtain ⟨h1,h2,h3,h4⟩:=h
  exact ⟨h1.keep (hS.same M h2),h2,fun n hn=>⟨Nat.lt_of_lt_of_le (h3 n hn).1 hS.size,(h3 n hn).2⟩,hg⟩
 | some d =>
  obtain ⟨pc',Bc,h1,h2,h3⟩:=h
  exact ⟨pc',Bc,h1,h2,MInv.keep (fun d O w w' h hS=>h.keep hS) h3 hS⟩
theorem wpAny_one {P:Program} {ops:Array Oper} {Q:Exit→Act→World→Prop} {fuel i:Nat} {listed:Array Bool} {a:Act} {w:World} (hr:Region.ready .any ops listed=[i]) (h:wpOp P ops Q i (wpAny P .any ops Q fuel (listed.setIfInBounds i true)) a w):wpAny P .any ops Q (fuel+1) listed a w:=by
 refine ⟨fun h0=>(by rw [hr] at h0; cases h0),fun j hj=>?_⟩
 rw [hr,List.mem_singleton] at hj
 subst hj
 exact h
theorem wpAny_two {P:Program} {ops:Array Oper} {Q:Exit→Act→World→Prop} {fuel i j:Nat} {listed:Array Bool} {a:Act} {w:World} (hr:Region.ready .any ops listed=[i,j]) (h:wpOp P ops Q i (wpAny P .any ops Q fuel (listed.setIfInBounds i true)) a w)
  (h':wpOp P ops Q j (wpAny P .any ops Q fuel (listed.setIfInBounds j true)) a w):wpAny P .any ops Q (fuel+1) listed a w:=by
 refine ⟨fun h0=>(by rw [hr] at h0; cases h0),fun k hk=>?_⟩
 rw [hr] at hk
 simp only [List.mem_cons,List.not_mem_nil,or_false] at hk
 rcases hk with rfl | rfl
 ·exact h
 ·exact h'
theorem wpAny_end {P:Program} {ops:Array Oper} {Q:Exit→Act→World→Prop} {listed:Array Bool} {a:Act} {w:World} (hr:Region.ready .any ops listed=[]) (h:Q .normal a w):wpAny P .any ops Q 0 listed a w:=⟨hr,h⟩
theorem sh_spl {ps:Array Value} {old:Array Value} (h:old.size=56) (hp:ps.size=56):(spl old.toList 0 ps.toList).toArray=ps:=by
 rw [spl_all (by simp [h,hp])]
theorem polR_one {pc:Array Value} (h:PolR w pc.toList):∀ u∈pc.toList,u.oneCell'=true:=by
 intro u hu
 obtain ⟨i,hi,e⟩:=List.getElem_of_mem hu
 have hl:=h.len
 have hg:pc.toList[i]?=some u:=by rw [List.getElem?_eq_getElem hi,e]
 cases hk:isK i with
 | true =>
  have hz:=(h.fit.ok.2 i (by omega) (isK_ok hk))
  rw [show pc[i]?=pc.toList[i]? by simp,hg] at hz
  cases hz
  rfl
 | false =>
  obtain ⟨k1,k2⟩:=isK_no hk
  obtain ⟨base,ln,c,h1,_⟩:=h.key (i - 5) (by omega)
  rw [show 5+(i - 5)=i by omega,hg] at h1
  cases h1
  rfl
theorem body17:Tryz.f17.body≠none:=by
 have h:Tryz.f17.body.isSome=true:=by kernel_rfl
 intro e
 rw [e] at h
 cases h
theorem name17:Tryz.f17.name ≠ "runtime.NumGoroutine" := by
 have h:(Tryz.f17.name == "runtime.NumGoroutine")=false:=by kernel_rfl
 intro e
 rw [e] at h
 cases h
theorem made_any (hw0:GlW w00) (hbl:Below w00.heap.size w00 w) (hw:GlW w) {ps:Array Value} (hps:PolA w ps):Calls Tryz.prog 8 #[.agg ps] w fun e w' =>
  ∃ M pc MO od,e=.returned (.tuple #[.pointer (some ⟨M,0,none⟩),.agg pc])∧Below w.heap.size w w'∧GlW w'∧PolR w' pc.toList∧MachD pc w00 M MO w' od∧(od=none∨od=some d00) ∧
   ∀ n,MO n→n<w00.heap.size∨w.heap.size+2≤n∨∃ a ln,a.block=n∧1≤ln∧ByteRow w' (some a) ln:=by
 refine (callsIn_wide (n:=3)).1 (callsIn_of_wp Tryz.func8 rfl trivial ?_ rfl)
 simp only [Tryz.ntmps8,List.size_toArray,List.length_cons,List.length_nil,Nat.reduceAdd,Nat.reduceSub,Array.replicate_succ,Array.replicate_zero,List.push_toArray,List.append_toArray,List.nil_append,List.cons_append]
 obtain ⟨d28,hd28,hr28⟩:=pol_un
 gi_wp2_with (refine in_load (b:=w.heap.size) (off:=0) (n:=56) (d:=d28) rfl rfl rfl ((alloc_same _ _ _ (by rw [alloc_size]; omega)).trans (heap_alloc_new w _)) hd28 hr28 pol_info (by have:=hps.len; omega) ?_; rw [take_all hps.len])
 rename_i K1 hK1 K2 hK2
 generalize hwB:(World.alloc (World.alloc w _) _)=wB
 have hbB:Below w.heap.size w wB:=by rw [← hwB]; exact ((Below.refl _ _).alloc (Nat.le_refl _) _).alloc (by rw [alloc_size]; omega) _
 have hsB:wB.heap.size=w.heap.size+2:=by rw [← hwB,alloc_size,alloc_size]
 have hrB:∃ old:Array Value,wB.heap[w.heap.size+1]?=some (.cells old 28 (0,0))∧old.size=56∧∀ (i:Nat) (z:Int),old[i]?≠some (Value.int .u8 z):=by
  have hh:=heap_alloc_new (w.alloc (Obj.cells ps 28))
  rw [alloc_size] at hh
  refine ⟨_,by rw [← hwB]; exact hh _,rfl,fun i z h=>?_⟩
  have:=Array.mem_of_getElem? h
  simp at this
 refine ⟨trivial,?_⟩
 refine (callsIn_wide.2 (fit_any (hw.belowW hbB) (hps.below hbB))).mono ?_
 rintro e w1 ⟨hb1,hw1,pc,rfl,hpc⟩
 obtain ⟨i28,z28,hi28,hz28,hzs⟩:=pol_zero
 have hpl:pc.size=56:=by simpa using hpc.len
 have hone:=polR_one hpc
 refine hK2 _ _ ?_
 refine in_alloc rfl rfl hi28 hz28 ?_
 simp only [Act.put,List.setIfInBounds_toArray,List.set_cons_succ,List.set_cons_zero]
 refine in_store (b:=w1.heap.size) (off:=0) (xs:=pc) (v:=.agg pc) rfl rfl rfl rfl rfl hone (by rw [hpl]; exact pol_info) (heap_alloc_new w1 _) (by omega) fun w2 hw2=>?_
 simp only [Act.put,List.setIfInBounds_toArray,List.set_cons_succ,List.set_cons_zero]
 refine wpListIn_nil ?_
 refine hK1 _ _ ?_
 gi_wp2_with (fail)
 have hmx:Tryz.prog.follows .mixedOrders=true:=by kernel_rfl
 have c2:w2.heap[w1.heap.size]?=some (.cells pc 28 (0,0)):=by
  have:=hw2.cell
  rwa [sh_spl hzs hpl] at this
 have z1:=hb1.size
 have z2:w2.heap.size=w1.heap.size+1:=by rw [hw2.size,alloc_size]
 have k12:∀ n,n<w1.heap.size→w2.heap[n]?=w1.heap[n]?:=fun n hn=>(hw2.same n (by omega)).trans (alloc_same w1 _ n hn)
 have b12:Below w1.heap.size w1 w2:=⟨hw2.os,hw2.tape,hw2.output,by omega,k12⟩
 obtain ⟨wD,hwD⟩:∃ wD,wD=w2.drew:=⟨_,rfl⟩
 have hD:wD.heap=w2.heap:=by rw [hwD]; rfl
 have b2D:Below w2.heap.size w2 wD:=by rw [hwD]; exact ⟨rfl,rfl,rfl,Nat.le_refl _,fun n _=>rfl⟩
 have bBD:Below wB.heap.size wB wD:=⟨b2D.os.trans (b12.os.trans hb1.os),b2D.tape.trans (b12.tape.trans hb1.tape),b2D.output.trans (b12.output.trans hb1.output),by rw [hD]; omega,fun n hn=>by rw [hD,k12 n (by omega)]; exact hb1.block n hn⟩
 have bwD:Below w.heap.size w wD:=⟨bBD.os.trans hbB.os,bBD.tape.trans hbB.tape,bBD.output.trans hbB.output,by rw [hD]; omega,fun n hn=>by rw [bBD.block n (by omega)]; exact hbB.block n hn⟩
 have b0D:Below w00.heap.size w00 wD:=⟨bwD.os.trans hbl.os,bwD.tape.trans hbl.tape,bwD.output.trans hbl.output,Nat.le_trans hbl.size bwD.size,fun n hn=>by rw [bwD.block n (Nat.lt_of_lt_of_le hn hbl.size)]; exact hbl.block n hn⟩
 have cD:wD.heap[w1.heap.size]?=some (.cells pc 28 (0,0)):=by rw [hD]; exact c2
 have hpD:PolR wD pc.toList:=hpc.keep (by rw [hD]; omega) fun n hn=>by
  obtain ⟨a,ln,rfl,_,_,vs,e,fr,hg,_⟩:=hn
  rw [hD]
  exact k12 _ (Array.getElem?_eq_some_iff.1 hg).1
 obtain ⟨old,ho1,ho2,ho3⟩:=hrB
 have oD:wD.heap[w.heap.size+1]?=some (.cells old 28 (0,0)):=(bBD.block _ (by omega)).trans ho1
 have hN:=new_any (w00:=w00) hw0 b0D (hw.belowW bwD) hpD
 refine wpIn_wide.2 (wp_region_any hmx ?_)
 show wpAny _ _ _ _ 5 #[false,false,false,false,false] _ _
 have hwD':({ w2 with drawn:=w2.drawn+1 }:World)=wD:=by rw [hwD]; rfl
 rw [hwD']
 rename_i K3 hK3
 have hltD:w1.heap.size<wD.heap.size:=(Array.getElem?_eq_some_iff.1 cD).1
 have hlt1:w.heap.size+1<wD.heap.size:=(Array.getElem?_eq_some_iff.1 oD).1
 have fin:∀ (w3 w4:World) (M:Nat),Below wD.heap.size wD w3→GlW w3→wD.heap.size≤M→M<w3.heap.size→(Dead w3 M∨Alive pc w00 wD w3 M)→Wr w3 w4 (w.heap.size+1) (spl old.toList 0 pc.toList).toArray 28 →
   K3 { tmps:=#[.agg ps,.pointer (some ⟨w.heap.size,0,none⟩),.pointer (some ⟨M,0,none⟩),.pointer (some ⟨w.heap.size+1,0,none⟩),.pointer (some ⟨w1.heap.size,0,none⟩),.agg ps,.agg pc,.agg pc,.pointer (some ⟨M,0,none⟩),.agg pc],defers:=[] } w4:=by
  intro w3 w4 M hb3 hw3 hM1 hM2 hres hw4
  have z3:=hb3.size
  have z4:w4.heap.size=w3.heap.size:=hw4.size
  have zD:=bwD.size
  have z0:=hbl.size
  have c4:w4.heap[w.heap.size+1]?=some (.cells pc 28 (0,0)):=by
   have:=hw4.cell
   rwa [sh_spl ho2 hpl] at this
  have k34:∀ n,n≠w.heap.size+1→w4.heap[n]?=w3.heap[n]?:=hw4.same
  have o3:w3.heap[w.heap.size+1]?=some (.cells old 28 (0,0)):=(hb3.block _ hlt1).trans oD
  have hnb:∀ n,(∃ a ln,a.block=n∧1≤ln∧ByteRow w3 (some a) ln)→n≠w.heap.size+1:=fun n hn e=>no_byte o3 ho3 (e ▸ hn)
  have hbw4:Below w.heap.size w w4:=⟨hw4.os.trans (hb3.os.trans bwD.os),hw4.tape.trans (hb3.tape.trans bwD.tape),hw4.output.trans (hb3.output.trans bwD.output),by omega,fun n hn=>by rw [k34 n (by omega),hb3.block n (by omega)]; exact bwD.block n hn⟩
  have hg4:GlW w4:=hw.belowW hbw4
  have hp3:PolR w3 pc.toList:=hpD.keep z3 fun n hn=>by
   obtain ⟨a,ln,rfl,_,_,vs,e,fr,hg,_⟩:=hn
   exact hb3.block _ (Array.getElem?_eq_some_iff.1 hg).1
  have hp4:PolR w4 pc.toList:=hp3.keep (by omega) fun n hn=>k34 n (hnb n hn)
  have hmach:∃ MO od,MachD pc w00 M MO w4 od∧(od=none∨od=some d00)∧∀ n,MO n→n<w00.heap.size∨w.heap.size+2≤n∨∃ a ln,a.block=n∧1≤ln∧ByteRow w4 (some a) ln:=by
   rcases hres with hdead | ⟨pc',Bc,MO,hp',hs,hI,hf⟩
   ·refine ⟨fun n=>n=M,none,⟨hdead.keep (k34 M (by omega)),rfl,fun n hn=>by subst hn; omega,hg4⟩,.inl rfl,fun n hn=>.inr (.inl (by subst hn; omega))⟩
   ·have hne:∀ n,MO n→n≠w.heap.size+1:=fun n hn=>by
     rcases hf n hn with h | h | h
     ·omega
     ·omega
     ·exact hnb n h
    refine ⟨MO,some d00,⟨pc',Bc,hp'.fit,hs,MInv.keep (fun d O w w' h hS=>h.keep hS) hI ⟨by omega,fun n hn=>k34 n (hne n hn),hw4.os,hw4.tape,hw4.output⟩⟩,.inr rfl,fun n hn=>?_⟩
    rcases hf n hn with h | h | h
    ·exact .inl h
    ·exact .inr (.inl (by omega))
    ·have hk:=hnb n h
     obtain ⟨a,ln,rfl,h1,h2,vs,e,fr,h3,h4⟩:=h
     exact .inr (.inr ⟨a,ln,rfl,h1,h2,vs,e,fr,(k34 _ hk).trans h3,h4⟩)
  obtain ⟨MO,od,hm1,hm2,hm3⟩:=hmach
  refine hK3 _ _ ?_
  gi_wp2
  have hload:=run_loadVar_mid (P:=Tryz.prog) w4 (w.heap.size+1) 0 28 pc.toList d28 (fun j u hu=>by rw [SE.cell_at c4,Nat.zero_add]; simpa using hu) hd28 hr28 (by rw [Array.length_toList,hpl]; exact pol_info)
  rw [Array.toArray_toList] at hload
  exact ⟨rfl,_,results_two rfl rfl hload,M,pc,MO,od,rfl,hbw4,hg4,hp4,hm1,hm2,hm3⟩
 refine wpAny_two (i:=0) (j:=2) (by kernel_rfl) ?_ ?_
 ·refine op_val (i:=0) rfl rfl (run_rowload (b:=w1.heap.size) (off:=0) (n:=56) (d:=d28) rfl rfl cD hd28 hr28 pol_info (by omega)) ?_
  simp only [List.getElem_toArray,List.getElem_cons_zero,List.getElem_cons_succ,Act.put,List.setIfInBounds_toArray,List.set_cons_succ,List.set_cons_zero]
  rw [take_all hpl]
  refine wpAny_two (i:=1) (j:=2) (by kernel_rfl) ?_ ?_
  ·refine op_call (i:=1) (f:=17) (args:=#[.agg pc]) rfl rfl (run_callf rfl Tryz.func17 name17 body17 (by simp [Act.eval])) (hN.mono ?_)
   rintro e w3 ⟨hb3,hw3,M,rfl,hM1,hM2,hres⟩
   refine ⟨_,rfl,?_⟩
   simp only [List.getElem_toArray,List.getElem_cons_zero,List.getElem_cons_succ,Act.put,List.setIfInBounds_toArray,List.set_cons_succ,List.set_cons_zero]
   refine wpAny_two (i:=2) (j:=3) (by kernel_rfl) ?_ ?_
   ·refine op_val (i:=2) rfl rfl (run_rowload (b:=w1.heap.size) (off:=0) (n:=56) (d:=d28) rfl rfl ((hb3.block _ hltD).trans cD) hd28 hr28 pol_info (by omega)) ?_
    simp only [List.getElem_toArray,List.getElem_cons_zero,List.getElem_cons_succ,Act.put,List.setIfInBounds_toArray,List.set_cons_succ,List.set_cons_zero]
    rw [take_all hpl]
    refine wpAny_one (i:=3) (by kernel_rfl) ?_
    refine op_val (i:=3) (v:=.pointer (some ⟨M,0,none⟩)) rfl rfl (run_assign rfl rfl) ?_
    simp only [List.getElem_toArray,List.getElem_cons_zero,List.getElem_cons_succ,Act.put,List.setIfInBounds_toArray,List.set_cons_succ,List.set_cons_zero]
    refine wpAny_one (i:=4) (by kernel_rfl) ?_
    refine op_store (i:=4) (b:=w.heap.size+1) (off:=0) (old:=old) (xs:=pc) (v:=.agg pc) rfl rfl rfl rfl rfl rfl hone (by rw [hpl]; exact pol_info) ((hb3.block _ hlt1).trans oD) (by omega) fun w4 hw4=>?_
    simp only [List.getElem_toArray,List.getElem_cons_zero,List.getElem_cons_succ,Act.put,List.setIfInBounds_toArray,List.set_cons_succ,List.set_cons_zero]
    refine wpAny_end (by kernel_rfl) ?_
    exact fin w3 w4 M hb3 hw3 hM1 hM2 hres hw4
   ·refine op_val (i:=3) (v:=.pointer (some ⟨M,0,none⟩)) rfl rfl (run_assign rfl rfl) ?_
    simp only [List.getElem_toArray,List.getElem_cons_zero,List.getElem_cons_succ,Act.put,List.setIfInBounds_toArray,List.set_cons_succ,List.set_cons_zero]
    refine wpAny_one (i:=2) (by kernel_rfl) ?_
    refine op_val (i:=2) rfl rfl (run_rowload (b:=w1.heap.size) (off:=0) (n:=56) (d:=d28) rfl rfl ((hb3.block _ hltD).trans cD) hd28 hr28 pol_info (by omega)) ?_
    simp only [List.getElem_toArray,List.getElem_cons_zero,List.getElem_cons_succ,Act.put,List.setIfInBounds_toArray,List.set_cons_succ,List.set_cons_zero]
    rw [take_all hpl]
    refine wpAny_one (i:=4) (by kernel_rfl) ?_
    refine op_store (i:=4) (b:=w.heap.size+1) (off:=0) (old:=old) (xs:=pc) (v:=.agg pc) rfl rfl rfl rfl rfl rfl hone (by rw [hpl]; exact pol_info) ((hb3.block _ hlt1).trans oD) (by omega) fun w4 hw4=>?_
    simp only [List.getElem_toArray,List.getElem_cons_zero,List.getElem_cons_succ,Act.put,List.setIfInBounds_toArray,List.set_cons_succ,List.set_cons_zero]
    refine wpAny_end (by kernel_rfl) ?_
    exact fin w3 w4 M hb3 hw3 hM1 hM2 hres hw4
  ·refine op_val (i:=2) rfl rfl (run_rowload (b:=w1.heap.size) (off:=0) (n:=56) (d:=d28) rfl rfl cD hd28 hr28 pol_info (by omega)) ?_
   simp only [List.getElem_toArray,List.getElem_cons_zero,List.getElem_cons_succ,Act.put,List.setIfInBounds_toArray,List.set_cons_succ,List.set_cons_zero]
   rw [take_all hpl]
   refine wpAny_one (i:=1) (by kernel_rfl) ?_
   refine op_call (i:=1) (f:=17) (args:=#[.agg pc]) rfl rfl (run_callf rfl Tryz.func17 name17 body17 (by simp [Act.eval])) (hN.mono ?_)
   rintro e w3 ⟨hb3,hw3,M,rfl,hM1,hM2,hres⟩
   refine ⟨_,rfl,?_⟩
   simp only [List.getElem_toArray,List.getElem_cons_zero,List.getElem_cons_succ,Act.put,List.setIfInBounds_toArray,List.set_cons_succ,List.set_cons_zero]
   refine wpAny_one (i:=3) (by kernel_rfl) ?_
   refine op_val (i:=3) (v:=.pointer (some ⟨M,0,none⟩)) rfl rfl (run_assign rfl rfl) ?_
   simp only [List.getElem_toArray,List.getElem_cons_zero,List.getElem_cons_succ,Act.put,List.setIfInBounds_toArray,List.set_cons_succ,List.set_cons_zero]
   refine wpAny_one (i:=4) (by kernel_rfl) ?_
   refine op_store (i:=4) (b:=w.heap.size+1) (off:=0) (old:=old) (xs:=pc) (v:=.agg pc) rfl rfl rfl rfl rfl rfl hone (by rw [hpl]; exact pol_info) ((hb3.block _ hlt1).trans oD) (by omega) fun w4 hw4=>?_
   simp only [List.getElem_toArray,List.getElem_cons_zero,List.getElem_cons_succ,Act.put,List.setIfInBounds_toArray,List.set_cons_succ,List.set_cons_zero]
   refine wpAny_end (by kernel_rfl) ?_
   exact fin w3 w4 M hb3 hw3 hM1 hM2 hres hw4
 ·refine op_val (i:=2) rfl rfl (run_rowload (b:=w1.heap.size) (off:=0) (n:=56) (d:=d28) rfl rfl cD hd28 hr28 pol_info (by omega)) ?_
  simp only [List.getElem_toArray,List.getElem_cons_zero,List.getElem_cons_succ,Act.put,List.setIfInBounds_toArray,List.set_cons_succ,List.set_cons_zero]
  rw [take_all hpl]
  refine wpAny_one (i:=0) (by kernel_rfl) ?_
  refine op_val (i:=0) rfl rfl (run_rowload (b:=w1.heap.size) (off:=0) (n:=56) (d:=d28) rfl rfl cD hd28 hr28 pol_info (by omega)) ?_
  simp only [List.getElem_toArray,List.getElem_cons_zero,List.getElem_cons_succ,Act.put,List.setIfInBounds_toArray,List.set_cons_succ,List.set_cons_zero]
  rw [take_all hpl]
  refine wpAny_one (i:=1) (by kernel_rfl) ?_
  refine op_call (i:=1) (f:=17) (args:=#[.agg pc]) rfl rfl (run_callf rfl Tryz.func17 name17 body17 (by simp [Act.eval])) (hN.mono ?_)
  rintro e w3 ⟨hb3,hw3,M,rfl,hM1,hM2,hres⟩
  refine ⟨_,rfl,?_⟩
  simp only [List.getElem_toArray,List.getElem_cons_zero,List.getElem_cons_succ,Act.put,List.setIfInBounds_toArray,List.set_cons_succ,List.set_cons_zero]
  refine wpAny_one (i:=3) (by kernel_rfl) ?_
  refine op_val (i:=3) (v:=.pointer (some ⟨M,0,none⟩)) rfl rfl (run_assign rfl rfl) ?_
  simp only [List.getElem_toArray,List.getElem_cons_zero,List.getElem_cons_succ,Act.put,List.setIfInBounds_toArray,List.set_cons_succ,List.set_cons_zero]
  refine wpAny_one (i:=4) (by kernel_rfl) ?_
  refine op_store (i:=4) (b:=w.heap.size+1) (off:=0) (old:=old) (xs:=pc) (v:=.agg pc) rfl rfl rfl rfl rfl rfl hone (by rw [hpl]; exact pol_info) ((hb3.block _ hlt1).trans oD) (by omega) fun w4 hw4=>?_
  simp only [List.getElem_toArray,List.getElem_cons_zero,List.getElem_cons_succ,Act.put,List.setIfInBounds_toArray,List.set_cons_succ,List.set_cons_zero]
  refine wpAny_end (by kernel_rfl) ?_
  exact fin w3 w4 M hb3 hw3 hM1 hM2 hres hw4
end SE
end
section
namespace In
variable {H:Type} {enc:TypeId×Value→H} {P:Program} {W:World} {base:Nat} {spare:Nat→Bool} {held:Bool}
def leaf (P:Program):Nat→TypeId→Nat→Option TypeId
 | 0,_,_=>none
 | f+1,t,i=>match P.underlying t with
  | some (.struct fs)=>(fs.toList.find? fun g=>decide (g.offset≤i)&&decide (i<g.offset+P.cellsOf g.type)).bind fun g=>leaf P f g.type (i - g.offset)
  | some (.array n e)=>if i<n*P.cellsOf e then leaf P f e (i % P.cellsOf e) else none
  | some .bool | some (.int _) | some (.slice _)=>if i=0 then some t else none
  | _=>none
theorem mapM_mem {α β:Type} {f:α→Option β}:∀ {l:List α} {r:List β},l.mapM f=some r→∀ x∈l,∃ y,f x=some y:=by
 intro l
 induction l with
 | nil=>intro r h x hx; cases hx
 | cons a al ih =>
  intro r h x hx
  rw [List.mapM_cons] at h
  cases ha:f a with
  | none=>simp [ha] at h
  | some y =>
   cases has:al.mapM f with
   | none=>simp [ha,has] at h
   | some ys =>
    rcases List.mem_cons.1 hx with rfl | hx
    ·exact ⟨y,ha⟩
    ·exact ih has x hx
theorem sub_get {cs:List Value} {off n i:Nat} {v:Value} (h:((cs.drop off).take n)[i]?=some v):cs[off+i]?=some v:=by
 rw [List.getElem?_take] at h
 split at h
 ·rw [List.getElem?_drop] at h; exact h
 ·cases h
theorem leaf_trod:∀ (f t i u:Nat) (cs:List Value) (fuel:Nat) (x:DataW H×List MemPlace),leaf P f t i=some u→DataW.trod enc P W base spare held fuel t cs=some x →
  ∃ v fuel' x',cs[i]?=some v∧DataW.trod enc P W base spare held fuel' u [v]=some x'
 | 0,t,i,u,cs,fuel,x,h,hf=>by simp [leaf] at h
 | f+1,t,i,u,cs,0,x,h,hf=>by simp [DataW.trod] at hf
 | f+1,t,i,u,cs,fuel+1,x,h,hf=>by
  have hf':=hf
  rw [DataW.trod_step] at hf
  unfold leaf at h
  unfold DataW.trodStep at hf
  cases hu:P.underlying t with
  | none=>rw [hu] at h; cases h
  | some d =>
   rw [hu] at h hf
   cases d <;> try (cases h; done)
   case bool =>
    simp only at h hf
    split at h
    ·rename_i h0
     cases h
     subst h0
     split at hf <;> try (first | (cases hf; done) | (rename_i e1 e2; cases e1; done) | (rename_i e1; cases e1; done))
     all_goals (first | exact ⟨_,_,_,rfl,hf'⟩ | simp_all)
    ·cases h
   case int k =>
    simp only at h hf
    split at h
    ·rename_i h0
     cases h
     subst h0
     split at hf <;> try (first | (cases hf; done) | (rename_i e1 e2; cases e1; done) | (rename_i e1; cases e1; done))
     all_goals (first | exact ⟨_,_,_,rfl,hf'⟩ | simp_all)
    ·cases h
   case slice e =>
    simp only at h hf
    split at h
    ·rename_i h0
     cases h
     subst h0
     split at hf <;> try (first | (cases hf; done) | (rename_i e1 e2; cases e1; done) | (rename_i e1; cases e1; done))
     all_goals (first | exact ⟨_,_,_,rfl,hf'⟩ | simp_all)
    ·cases h
   case struct fs =>
    simp only at h
    obtain ⟨g,hg,hl⟩:=Option.bind_eq_some_iff.1 h
    have hm:=List.mem_of_find?_eq_some hg
    have hb:=List.find?_some hg
    simp only [Bool.and_eq_true,decide_eq_true_eq] at hb
    have hf2:(fs.toList.mapM fun f=>DataW.trod enc P W base spare held fuel f.type ((cs.drop f.offset).take (P.cellsOf f.type))).isSome=true:=by
     split at hf <;> simp_all
     all_goals (obtain ⟨_,a,ha,_⟩:=hf; rw [ha]; rfl)
    obtain ⟨xs,hxs⟩:=Option.isSome_iff_exists.1 hf2
    obtain ⟨y,hy⟩:=mapM_mem hxs g hm
    obtain ⟨v,fuel',x',h1,h2⟩:=leaf_trod f g.type (i - g.offset) u _ fuel y hl hy
    refine ⟨v,fuel',x',?_,h2⟩
    have:=sub_get h1
    rwa [show g.offset+(i - g.offset)=i by omega] at this
   case array n e =>
    simp only at h
    split at h
    ·rename_i hlt
     have hc:0<P.cellsOf e:=by
      rcases Nat.eq_zero_or_pos (P.cellsOf e) with h0 | h0
      ·rw [h0] at hlt; omega
      ·exact h0
     have hf2:((List.range n).mapM fun i=>DataW.trod enc P W base spare held fuel e ((cs.drop (i*P.cellsOf e)).take (P.cellsOf e))).isSome=true:=by
      split at hf <;> simp_all
      all_goals (obtain ⟨_,a,ha,_⟩:=hf; rw [ha]; rfl)
     obtain ⟨xs,hxs⟩:=Option.isSome_iff_exists.1 hf2
     obtain ⟨y,hy⟩:=mapM_mem hxs (i / P.cellsOf e) (List.mem_range.2 ((Nat.div_lt_iff_lt_mul hc).2 hlt))
     obtain ⟨v,fuel',x',h1,h2⟩:=leaf_trod f e (i % P.cellsOf e) u _ fuel y h hy
     refine ⟨v,fuel',x',?_,h2⟩
     have:=sub_get h1
     rwa [show i / P.cellsOf e*P.cellsOf e+i % P.cellsOf e=i by rw [Nat.mul_comm]; exact Nat.div_add_mod i _] at this
    ·cases h
theorem trod_int {t:TypeId} {k:IntKind} {v:Value} {fuel:Nat} {x:DataW H×List MemPlace} (hu:P.underlying t=some (.int k)) (h:DataW.trod enc P W base spare held fuel t [v]=some x):∃ z,v=.int k z∧(Lit.int k z).wf=true:=by
 cases fuel with
 | zero=>simp [DataW.trod] at h
 | succ fuel =>
  rw [DataW.trod_step] at h
  unfold DataW.trodStep at h
  rw [hu] at h
  cases v <;> simp at h
  rename_i k' n
  obtain ⟨⟨rfl,h1⟩,_⟩:=h
  exact ⟨n,rfl,h1⟩
theorem trod_bool {t:TypeId} {v:Value} {fuel:Nat} {x:DataW H×List MemPlace} (hu:P.underlying t=some .bool) (h:DataW.trod enc P W base spare held fuel t [v]=some x):∃ b,v=.bool b:=by
 cases fuel with
 | zero=>simp [DataW.trod] at h
 | succ fuel =>
  rw [DataW.trod_step] at h
  unfold DataW.trodStep at h
  rw [hu] at h
  cases v <;> simp at h
  exact ⟨_,rfl⟩
theorem cells_get {a:Addr} {n:Nat} {cs:List Value} (h:W.cells? base a n=some cs):cs.length=n∧∀ j v,cs[j]?=some v→W.cell? (a.add j)=some v:=by
 unfold World.cells? at h
 split at h
 ·have key:∀ (l:List Nat) (r:List Value),(l.mapM fun i=>W.cell? (a.add i))=some r→r.length=l.length∧∀ (j:Nat) (v:Value),r[j]?=some v→∃ i,l[j]?=some i∧W.cell? (a.add i)=some v:=by
   intro l
   induction l with
   | nil=>intro r h; simp at h; subst h; exact ⟨rfl,fun j v h=>by simp at h⟩
   | cons x xs ih =>
    intro r h
    rw [List.mapM_cons] at h
    cases hx:W.cell? (a.add x) with
    | none=>simp [hx] at h
    | some y =>
     cases hxs:xs.mapM (fun i=>W.cell? (a.add i)) with
     | none=>simp [hx,hxs] at h
     | some ys =>
      simp [hx,hxs] at h
      subst h
      obtain ⟨h1,h2⟩:=ih ys hxs
      refine ⟨by simp [h1],fun j v hj=>?_⟩
      cases j with
      | zero=>simp at hj; subst hj; exact ⟨x,rfl,hx⟩
      | succ j=>simp at hj; simpa using h2 j v hj
  obtain ⟨h1,h2⟩:=key _ _ h
  refine ⟨by simpa using h1,fun j v hj=>?_⟩
  obtain ⟨i,hi,hc⟩:=h2 j v hj
  obtain ⟨hlt,he⟩:=List.getElem?_eq_some_iff.1 hi
  rw [List.getElem_range] at he
  subst he
  exact hc
 ·cases h
theorem trod_slice {t e:TypeId} {v:Value} {fuel:Nat} {x:DataW H×List MemPlace} (hu:P.underlying t=some (.slice e)) (h:DataW.trod enc P W base spare held fuel t [v]=some x) :
  v=.slice none 0 0∨∃ a len cap,v=.slice (some a) len cap∧len≤cap∧cap≤maxLen∧∀ i,i<len→∃ cs fuel' y,W.cells? base (a.add (i*P.cellsOf e)) (P.cellsOf e)=some cs∧DataW.trod enc P W base spare held fuel' e cs=some y:=by
 cases fuel with
 | zero=>simp [DataW.trod] at h
 | succ fuel =>
  rw [DataW.trod_step] at h
  unfold DataW.trodStep at h
  rw [hu] at h
  simp only at h
  split at h <;> try (first | (cases h; done) | (rename_i q; cases q; done) | (rename_i e1 e2; cases e1; done))
  ·rename_i h2; simp only [List.cons.injEq,and_true] at h2; exact .inl h2
  ·rename_i e' a len cap h1 h2
   cases h1
   simp only [List.cons.injEq,and_true] at h2
   subst h2
   refine .inr ⟨a,len,cap,rfl,?_⟩
   split at h
   ·rename_i hc
    refine ⟨hc.2.1,hc.2.2,fun i hi=>?_⟩
    obtain ⟨xs,hxs,_⟩:=Option.bind_eq_some_iff.1 h
    obtain ⟨y,hy⟩:=mapM_mem hxs i (List.mem_range.2 hi)
    obtain ⟨cs,h3,h4⟩:=Option.bind_eq_some_iff.1 hy
    exact ⟨cs,fuel,y,h3,h4⟩
   ·cases h
end In
end
section
namespace In
open SE (ByteRow i64)
variable {H:Type} {enc:TypeId×Value→H} {W:World} {spare:Nat→Bool} {held:Bool}
def inI (z:Int):Prop:=-9223372036854775808≤z∧z≤9223372036854775807
theorem byte_cells:Tryz.prog.cellsOf 5=1:=by kernel_rfl
theorem wf_i64 {z:Int} (h:(Lit.int .i64 z).wf=true):inI z:=by
 simp only [Lit.wf,Bool.and_eq_true,decide_eq_true_eq] at h
 exact h
theorem wf_u8 {z:Int} (h:(Lit.int .u8 z).wf=true):0≤z∧z≤255:=by
 simp only [Lit.wf,Bool.and_eq_true,decide_eq_true_eq] at h
 exact h
theorem cell_obj {w:World} {a:Addr} {v:Value} (h:w.cell? a=some v):a.spot=none∧∃ vs e fr,w.heap[a.block]?=some (.cells vs e fr)∧vs[a.off]?=some v:=by
 unfold World.cell? at h
 split at h
 ·rename_i vs e fr hg
  split at h
  ·cases h
  ·rename_i hs
   refine ⟨by simpa using hs,vs,e,fr,hg,h⟩
 ·cases h
theorem add_at {a:Addr} (h:a.spot=none) (n:Nat):a.add n=⟨a.block,a.off+n,none⟩:=by
 cases a with
 | mk b o s =>
  cases h
  unfold Addr.add
  split
  ·rename_i e; subst e; rfl
  ·rfl
theorem bytes_trod {base len cap:Nat} {a:Addr} {fuel:Nat} {x:DataW H×List MemPlace} (h:DataW.trod enc Tryz.prog W base spare held fuel 23 [.slice (some a) len cap]=some x) :
  len≤cap∧cap≤maxLen∧∀ i,i<len→∃ z:Int,0≤z∧z≤255∧W.cell? (a.add i)=some (.int .u8 z):=by
 rcases trod_slice Tryz.underlying23 h with h | ⟨a',l,c,e,h1,h2,h3⟩
 ·cases h
 ·cases e
  refine ⟨h1,h2,fun i hi=>?_⟩
  obtain ⟨cs,f',y,h4,h5⟩:=h3 i hi
  rw [byte_cells,Nat.mul_one] at h4
  obtain ⟨h6,h7⟩:=cells_get h4
  match cs,h6 with
  | [v],_ =>
   obtain ⟨z,rfl,hz⟩:=trod_int Tryz.underlying5 h5
   have:=h7 0 _ rfl
   rw [add_of_add,Nat.add_zero] at this
   exact ⟨z,(wf_u8 hz).1,(wf_u8 hz).2,this⟩
theorem has_obj {r:Reach} {base n:Nat} {a:Addr} {e:TypeId} (h:W.has Tryz.prog r base a e n):a.spot=none∧∃ vs t fr,W.heap[a.block]?=some (.cells vs t fr):=by
 obtain ⟨_,h1,row,cells,h2,_⟩:=h
 refine ⟨h1,?_⟩
 unfold World.shape? at h2
 split at h2
 ·rename_i vs t fr hg; exact ⟨vs,t,fr,hg⟩
 ·cases h2
theorem ev_leaf:((List.range 10).all fun i=>leaf Tryz.prog 6 48 i == some (if i == 2 then 23 else if i == 3||i == 8||i == 9 then 4 else 3))=true:=by kernel_rfl
theorem ev_cells:Tryz.prog.cellsOf 48=10:=by kernel_rfl
structure Ev where
 k:Int
 s:Int
 B:Option Addr
 n:Nat
 c:Nat
 v:Bool
 x1:Int
 x2:Int
 x3:Int
 x4:Int
 g:Bool
 b:Bool
instance:Inhabited Ev:=⟨⟨0,0,none,0,0,false,0,0,0,0,false,false⟩⟩
def Ev.cells (e:Ev):List Value:=[i64 e.k,i64 e.s,.slice e.B e.n e.c,.bool e.v,i64 e.x1,i64 e.x2,i64 e.x3,i64 e.x4,.bool e.g,.bool e.b]
structure Ev.Ok (e:Ev) (w:World):Prop where
 k:inI e.k
 s:inI e.s
 x1:inI e.x1
 x2:inI e.x2
 x3:inI e.x3
 x4:inI e.x4
 le:e.n≤e.c
 mx:e.c≤maxLen
 rd:∃ x:List UInt8,Reads w w.heap.size 1 e.B e.n (x.map bv)
def EvsIn (w:World) (b:Option Addr) (n c:Nat):Prop:=n≤c∧c≤maxLen∧∃ es:List Ev,es.length=n∧(∀ e∈es,e.Ok w)∧Reads w w.heap.size 10 b n (es.flatMap Ev.cells)
theorem leaf_int {i:Nat} {cs:List Value} {fuel:Nat} {x:DataW H×List MemPlace} (hl:leaf Tryz.prog 6 48 i=some 3) (h:DataW.trod enc Tryz.prog W 0 spare held fuel 48 cs=some x):∃ z,cs[i]?=some (i64 z)∧inI z:=by
 obtain ⟨v,f',x',h1,h2⟩:=leaf_trod 6 48 i 3 _ fuel x hl h
 obtain ⟨z,rfl,hz⟩:=trod_int Tryz.underlying3 h2
 exact ⟨z,h1,wf_i64 hz⟩
theorem leaf_bool {i:Nat} {cs:List Value} {fuel:Nat} {x:DataW H×List MemPlace} (hl:leaf Tryz.prog 6 48 i=some 4) (h:DataW.trod enc Tryz.prog W 0 spare held fuel 48 cs=some x):∃ b,cs[i]?=some (.bool b):=by
 obtain ⟨v,f',x',h1,h2⟩:=leaf_trod 6 48 i 4 _ fuel x hl h
 obtain ⟨z,rfl⟩:=trod_bool Tryz.underlying4 h2
 exact ⟨z,h1⟩
theorem lf {i u:Nat} (hi:i<10) (hu:(if i == 2 then 23 else if i == 3||i == 8||i == 9 then 4 else 3)=u):leaf Tryz.prog 6 48 i=some u:=by
 have:=List.all_eq_true.1 ev_leaf i (List.mem_range.2 hi)
 rw [hu] at this
 simpa using this
theorem ev_in {cs:List Value} {fuel:Nat} {x:DataW H×List MemPlace} (hlen:cs.length=10) (h:DataW.trod enc Tryz.prog W 0 spare held fuel 48 cs=some x):∃ e:Ev,cs=e.cells∧e.Ok W:=by
 obtain ⟨k,h0,k0⟩:=leaf_int (lf (i:=0) (by omega) rfl) h
 obtain ⟨s,h1,k1⟩:=leaf_int (lf (i:=1) (by omega) rfl) h
 obtain ⟨v,h3⟩:=leaf_bool (lf (i:=3) (by omega) rfl) h
 obtain ⟨x1,h4,k4⟩:=leaf_int (lf (i:=4) (by omega) rfl) h
 obtain ⟨x2,h5,k5⟩:=leaf_int (lf (i:=5) (by omega) rfl) h
 obtain ⟨x3,h6,k6⟩:=leaf_int (lf (i:=6) (by omega) rfl) h
 obtain ⟨x4,h7,k7⟩:=leaf_int (lf (i:=7) (by omega) rfl) h
 obtain ⟨g,h8⟩:=leaf_bool (lf (i:=8) (by omega) rfl) h
 obtain ⟨b,h9⟩:=leaf_bool (lf (i:=9) (by omega) rfl) h
 obtain ⟨u,f',x',h2,q2⟩:=leaf_trod 6 48 2 23 _ fuel x (lf (by omega) rfl) h
 have key:∃ B n c,u=.slice B n c∧n≤c∧c≤maxLen∧∃ x:List UInt8,Reads W W.heap.size 1 B n (x.map bv):=by
  rcases trod_slice Tryz.underlying23 q2 with rfl | ⟨a,n,c,rfl,e1,e2,_⟩
  ·exact ⟨none,0,0,rfl,Nat.le_refl _,Nat.zero_le _,[],Reads.none_⟩
  ·obtain ⟨_,_,hb⟩:=bytes_trod q2
   refine ⟨some a,n,c,rfl,e1,e2,?_⟩
   have hb':∀ i,i<n→∃ y:UInt8,W.cell? (a.add i)=some (bv y):=fun i hi=>by
    obtain ⟨z,z1,z2,z3⟩:=hb i hi
    refine ⟨UInt8.ofNat z.toNat,?_⟩
    rw [z3]
    have:(UInt8.ofNat z.toNat).toNat=z.toNat:=by
     rw [UInt8.toNat_ofNat']
     omega
    simp only [bv,this]
    rw [Int.toNat_of_nonneg z1]
   obtain ⟨f,hf⟩:=Go.Deep.choose_lt hb'
   refine ⟨(List.range n).map f,by simp,fun hn=>⟨a,rfl,?_,?_⟩⟩
   ·have:=World.block_lt_of_cell? W _ (hf 0 hn)
    rwa [block_of_add] at this
   ·intro j u hu
    rw [List.getElem?_map,List.getElem?_map] at hu
    rcases Nat.lt_or_ge j n with hj | hj
    ·rw [List.getElem?_range hj] at hu
     simp only [Option.map_some,Option.some.injEq] at hu
     rw [← hu]
     exact hf j hj
    ·rw [List.getElem?_eq_none (by simpa using hj)] at hu
     cases hu
 obtain ⟨B,n,c,rfl,r1,r2,r3⟩:=key
 match cs,hlen with
 | [y0,y1,y2,y3,y4,y5,y6,y7,y8,y9],_ =>
  simp at h0 h1 h2 h3 h4 h5 h6 h7 h8 h9
  subst h0 h1 h2 h3 h4 h5 h6 h7 h8 h9
  exact ⟨⟨k,s,B,n,c,v,x1,x2,x3,x4,g,b⟩,rfl,k0,k1,k4,k5,k6,k7,r1,r2,r3⟩
theorem flat_len {es:List Ev}:(es.flatMap Ev.cells).length=es.length*10:=by
 induction es with
 | nil=>rfl
 | cons e es ih=>simp only [List.flatMap_cons,List.length_append,ih,Ev.cells,List.length_cons,List.length_nil]; omega
theorem flat_get {es:List Ev} {i j:Nat} {e:Ev} (h:es[i]?=some e) (hj:j<10):(es.flatMap Ev.cells)[i*10+j]?=e.cells[j]?:=by
 induction es generalizing i with
 | nil=>simp at h
 | cons a es ih =>
  have hl:a.cells.length=10:=rfl
  cases i with
  | zero =>
   simp at h
   subst h
   rw [List.flatMap_cons,List.getElem?_append_left (by omega),Nat.zero_mul,Nat.zero_add]
  | succ i =>
   simp at h
   rw [List.flatMap_cons,List.getElem?_append_right (by omega),← ih h]
   congr 1
   omega
theorem evs_in {base:Nat} {v:Value} {fuel:Nat} {x:DataW H×List MemPlace} (hok:Value.okWide Tryz.prog W .any base 29 v) (h:DataW.trod enc Tryz.prog W 0 spare held fuel 29 v.cells.toList=some x) :
  ∃ b n c,v=.slice b n c∧EvsIn W b n c:=by
 obtain ⟨b,n,c,rfl⟩:=Go.WideShapes.okWide_slice Tryz.underlying29 hok
 refine ⟨b,n,c,rfl,?_⟩
 rcases trod_slice Tryz.underlying29 (v:=.slice b n c) (by simpa [Value.cells] using h) with h | ⟨a,n',c',h,h1,h2,h3⟩
 ·cases h
  exact ⟨Nat.le_refl _,Nat.zero_le _,[],rfl,(fun e he=>by cases he),Reads.none_⟩
 ·cases h
  have each:∀ i,i<n→∃ e:Ev,e.Ok W∧∀ j u,e.cells[j]?=some u→W.cell? (a.add (i*10+j))=some u:=fun i hi=>by
   obtain ⟨cs,f',y,q1,q2⟩:=h3 i hi
   rw [ev_cells] at q1
   obtain ⟨q3,q4⟩:=cells_get q1
   obtain ⟨e,rfl,he⟩:=ev_in q3 q2
   refine ⟨e,he,fun j u hu=>?_⟩
   have:=q4 j u hu
   rwa [add_of_add] at this
  obtain ⟨f,hf⟩:=Go.Deep.choose_lt each
  have hget:∀ i,i<n→((List.range n).map f)[i]?=some (f i):=fun i hi=>by
   rw [List.getElem?_map,List.getElem?_range hi]
   rfl
  refine ⟨h1,h2,(List.range n).map f,by simp,fun e he=>?_,by rw [flat_len]; simp,fun hn=>⟨a,rfl,?_,?_⟩⟩
  ·obtain ⟨i,hi,rfl⟩:=List.mem_map.1 he
   exact (hf i (List.mem_range.1 hi)).1
  ·have:=World.block_lt_of_cell? W _ ((hf 0 hn).2 0 _ rfl)
   rwa [block_of_add] at this
  ·intro j u hu
   have hlt:j<n*10:=by
    have:=(List.getElem?_eq_some_iff.1 hu).1
    rw [flat_len] at this
    simpa using this
   have hi:j / 10<n:=by omega
   have:=flat_get (hget (j / 10) hi) (j:=j % 10) (by omega)
   rw [show j / 10*10+j % 10=j by omega,hu] at this
   have h:=(hf (j / 10) hi).2 (j % 10) u this.symm
   rwa [show j / 10*10+j % 10=j by omega] at h
end In
end
section
namespace In
open Go.RowKit Go.Shelf Mc
open SE (ByteRow i64)
attribute [local go_sem] Oper.semAt_some
set_option maxHeartbeats 4000000
structure EvF (base:Nat) (w:World) (e:Ev):Prop where
 k:inI e.k
 s:inI e.s
 x1:inI e.x1
 x2:inI e.x2
 x3:inI e.x3
 x4:inI e.x4
 n120:e.n≤120
 le:e.n≤e.c
 rd:∃ x:List UInt8,Reads w w.heap.size 1 e.B e.n (x.map bv)
 row:ByteRow w e.B e.n
 new:∀ x,e.B=some x→base≤x.block∧x.block<w.heap.size
theorem EvF.keep {base:Nat} {w w':World} {e:Ev} (h:EvF base w e) (hsz:w.heap.size≤w'.heap.size) (hs:∀ x,e.B=some x→w'.heap[x.block]?=w.heap[x.block]?):EvF base w' e:=by
 obtain ⟨x,hx⟩:=h.rd
 refine ⟨h.k,h.s,h.x1,h.x2,h.x3,h.x4,h.n120,h.le,⟨x,(reads_keep hx fun y hy _=>hs y hy).more hsz⟩,?_,fun x hx=>⟨(h.new x hx).1,Nat.lt_of_lt_of_le (h.new x hx).2 hsz⟩⟩
 have hr:=h.row
 cases hB:e.B with
 | none=>rw [hB] at hr; exact hr
 | some a =>
  rw [hB] at hr
  obtain ⟨h1,vs,t,fr,h2,h3⟩:=hr
  exact ⟨h1,vs,t,fr,(hs a hB).trans h2,h3⟩
structure FewI (w0:World) (i:Nat) (v:Value) (es:List Ev) (w:World):Prop where
 bel:Below w0.heap.size w0 w
 own:w.ownsRow w0.heap.size 48 10 v i (es.flatMap Ev.cells)
 len:es.length=i
 ev:∀ e∈es,EvF w0.heap.size w e∧∀ x,e.B=some x→v.ownBlock≠some x.block
theorem ev_info:(Tryz.prog.info? 48).map (fun i=>(i.zero,i.size,i.bytes))=some (some (.agg #[.int .i64 0,.int .i64 0,.slice none 0 0,.bool false,.int .i64 0,.int .i64 0,.int .i64 0,.int .i64 0,.bool false,.bool false]),10,96):=by kernel_rfl
theorem by_info:(Tryz.prog.info? 5).map (fun i=>(i.zero,i.size,i.bytes))=some (some (.int .u8 0),1,1):=by kernel_rfl
theorem in_loadC {F:Fence} {nF:Nat} {P:Program} {ops:Array Oper} {rest:List Oper} {o:Oper} {a:Act} {w:World} {Q:Exit→Act→World→Prop} {b off ty:Nat} {x:Operand} {vs:List Value} {d:TypeDesc} (hgd:o.guard=none) (ho:o.op=.load ty x) (hx:a.eval x=.pointer (some ⟨b,off,none⟩))
  (hc:∀ (j:Nat) v,vs[j]?=some v→w.cell? ⟨b,off+j,none⟩=some v) (hu:P.underlying ty=some d) (hd:d.isRow=true) (hi:(P.info? ty).map (·.size)=some vs.length) (h:wpListIn F nF P ops Q rest (a.put o.dst (.agg vs.toArray)) w):wpListIn F nF P ops Q (o::rest) a w:=by
 refine in_val hgd (by rw [ho]; intro c hc; cases hc) (by simp [Oper.about,ho]) (v:=.agg vs.toArray) (w':=w) ?_ h
 have:=run_loadAt_mid (P:=P) w b off ty vs d (fun j v hv=>hc j v hv) hu hd hi
 simp only [execOp,ho,hx,Sem.run_bind,this,Result.andThen_ok,Sem.run_pure]
theorem ev_un:∃ d,Tryz.prog.underlying 48=some d∧d.isRow=true:=by
 have h:(Tryz.prog.underlying 48).map (·.isRow)=some true:=by kernel_rfl
 cases hd:Tryz.prog.underlying 48 with
 | none=>rw [hd] at h; cases h
 | some d=>rw [hd] at h; exact ⟨d,rfl,by simpa using h⟩
theorem ev_size:(Tryz.prog.info? 48).map (·.size)=some 10:=by kernel_rfl
theorem own_empty (w:World) (e size:Nat):(w.alloc (.cells #[] e)).ownsRow w.heap.size e size (.slice (some ⟨w.heap.size,0,none⟩) 0 0) 0 [] :=
 ⟨by simp,.inr ⟨w.heap.size,0,#[],rfl,Nat.le_refl _,heap_alloc_new w _,Nat.le_refl _,Nat.zero_le _,by simp,by simp⟩⟩
theorem f48_2 (w:World) (b:Nat):(Instr.fieldAt 48 (.pointer (some ⟨b,0,none⟩)) 2).run Tryz.prog w=.ok (.pointer (some ⟨b,2,none⟩)) w:=by kernel_rfl
theorem sl23_info:(Tryz.prog.info? 23).map (·.size)=some 1:=by kernel_rfl
theorem bytes_one {x:List UInt8}:∀ u∈x.map bv,u.oneCell'=true:=fun u hu=>by
 obtain ⟨y,_,rfl⟩:=List.mem_map.1 hu
 rfl
theorem own_byte {w:World} {base m:Nat} {v:Value} {x:List UInt8} (h:w.ownsRow base 5 1 v m (x.map bv)):∃ A c,v=.slice A m c∧m≤c∧Reads w w.heap.size 1 A m (x.map bv)∧ByteRow w A m∧∀ y,A=some y→base≤y.block∧y.block<w.heap.size:=by
 have hl:=h.1
 rcases h.2 with ⟨rfl,h0⟩ | ⟨g,cap,cur,rfl,hb,hh,hc,_,hsz,ht⟩
 ·subst h0
  exact ⟨none,0,rfl,Nat.le_refl _,Reads.of_own h,rfl,fun y hy=>by cases hy⟩
 ·refine ⟨_,_,rfl,hc,Reads.of_own h,⟨rfl,cur,5,(0,0),hh,fun i hi=>?_⟩,fun y hy=>by cases hy; exact ⟨hb,(Array.getElem?_eq_some_iff.1 hh).1⟩⟩
  have hx:i<x.length:=by simp at hl; omega
  refine ⟨(x[i].toNat:Int),by omega,by have:=x[i].toNat_lt; omega,?_⟩
  have:(cur.toList.take (m*1))[i]?=(x.map bv)[i]?:=by rw [ht]
  rw [List.getElem?_take,if_pos (by omega),List.getElem?_map,List.getElem?_eq_getElem hx] at this
  simpa [bv] using this
theorem ev_one (e:Ev):∀ u∈e.cells,u.oneCell'=true:=fun u hu=>by
 simp only [Ev.cells,List.mem_cons,List.not_mem_nil,or_false] at hu
 rcases hu with rfl | rfl | rfl | rfl | rfl | rfl | rfl | rfl | rfl | rfl <;> rfl
structure Cp (wr w6:World) (xs:List UInt8) (A:Option Addr) (m c:Nat) (cs:Array Value):Prop where
 le:m≤c
 bel:Below wr.heap.size wr w6
 box:w6.heap[wr.heap.size]?=some (.cells cs 48 (0,0))
 new:∀ x,A=some x→wr.heap.size≤x.block∧x.block<w6.heap.size
 rd:Reads w6 w6.heap.size 1 A m (xs.map bv)
 row:ByteRow w6 A m
 one:wr.heap.size<w6.heap.size
theorem copy_ok {wr w5 w6:World} {cs cs':Array Value} {v5:Value} {m:Nat} {x:List UInt8} (hg:((wr.alloc (Obj.cells cs 48)).alloc (Obj.cells #[] 5)).grownBy w5 (Value.slice (some ⟨wr.heap.size+1,0,none⟩) 0 0).ownBlock)
  (ho:w5.ownsRow (wr.heap.size+1) 5 1 v5 (0+m) ([]++x.map bv)) (hw:Wr w5 w6 wr.heap.size cs' 48):∃ A c,v5=.slice A m c∧Cp wr w6 x A m c cs':=by
 rw [Nat.zero_add,List.nil_append] at ho
 have hz2:((wr.alloc (Obj.cells cs 48)).alloc (Obj.cells #[] 5)).heap.size=wr.heap.size+2:=by rw [alloc_size,alloc_size]
 have hz5:=hg.size
 have h56:∀ n,n≠wr.heap.size→w6.heap[n]?=w5.heap[n]?:=hw.same
 have ho6:w6.ownsRow (wr.heap.size+1) 5 1 v5 m (x.map bv):=ownsRow_keep ho fun g hg=>h56 g (by have:=(own_lt ho hg).1; omega)
 obtain ⟨A,c,rfl,h1,h2,h3,h4⟩:=own_byte ho6
 refine ⟨A,c,rfl,h1,⟨hw.os.trans hg.os,hw.tape.trans hg.tape,hw.output.trans hg.output,by rw [hw.size]; omega,fun n hn=>?_⟩,hw.cell,fun y hy=>⟨by have:=(h4 y hy).1; omega,(h4 y hy).2⟩,h2,h3,by rw [hw.size]; omega⟩
 rw [h56 n (by omega),hg.block n (by omega) (fun e=>by simp only [Value.ownBlock,Option.some.injEq] at e; omega),alloc_same _ _ n (by rw [alloc_size]; omega),alloc_same _ _ n hn]
theorem few_next {w wr w6 w7:World} {k:Nat} {u3 v7:Value} {os:List Ev} {e:Ev} {xs:List UInt8} {m c:Nat} {A:Option Addr} {cs:Array Value} (hF:FewI w k u3 os wr) (he:e.Ok w) (hm:m≤120) (hC:Cp wr w6 xs A m c cs)
  (ho:w7.ownsRow w.heap.size 48 10 v7 (k+1) (os.flatMap Ev.cells++({ e with B:=A,n:=m,c:=c }:Ev).cells)) (hg:(w6.alloc (Obj.cells (({ e with B:=A,n:=m,c:=c }:Ev).cells.toArray) 48)).grownBy w7 u3.ownBlock)
  (hb:v7.ownBlock=u3.ownBlock∨v7.ownBlock=some (w6.alloc (Obj.cells (({ e with B:=A,n:=m,c:=c }:Ev).cells.toArray) 48)).heap.size) :
  FewI w (k+1) v7 (os++[{ e with B:=A,n:=m,c:=c }]) w7:=by
 have z1:=hF.bel.size
 have z2:=hC.bel.size
 have z3:=hg.size
 rw [alloc_size] at z3 hb
 have hu:∀ g,u3.ownBlock=some g→w.heap.size≤g∧g<wr.heap.size:=fun g hg=>own_lt hF.own hg
 have k6:∀ n,n<wr.heap.size→u3.ownBlock≠some n→w7.heap[n]?=wr.heap[n]?:=fun n hn hne=>by
  rw [hg.block n (by rw [alloc_size]; omega) (fun e=>hne e.symm),alloc_same _ _ n (by omega)]
  exact hC.bel.block n hn
 have k7:∀ n,wr.heap.size≤n→n<w6.heap.size→w7.heap[n]?=w6.heap[n]?:=fun n hn hlt=>by
  rw [hg.block n (by rw [alloc_size]; omega) (fun e=>by have:=hu n e.symm; omega),alloc_same _ _ n hlt]
 refine ⟨?_,by rw [List.flatMap_append]; simpa using ho,by simp [hF.len],fun e' he'=>?_⟩
 ·refine ⟨?_,?_,?_,by omega,fun n hn=>?_⟩
  ·rw [hg.os]; show w6.os=_; rw [hC.bel.os,hF.bel.os]
  ·rw [hg.tape]; show w6.tape=_; rw [hC.bel.tape,hF.bel.tape]
  ·rw [hg.output]; show w6.output=_; rw [hC.bel.output,hF.bel.output]
  ·rw [k6 n (by omega) (fun e=>by have:=hu n e; omega)]
   exact hF.bel.block n hn
 ·rcases List.mem_append.1 he' with he' | he'
  ·obtain ⟨q1,q2⟩:=hF.ev e' he'
   refine ⟨q1.keep (by omega) fun x hx=>k6 _ (q1.new x hx).2 (q2 x hx),fun x hx e=>?_⟩
   rcases hb with hb | hb
   ·exact q2 x hx (hb.symm.trans e)
   ·rw [hb] at e
    have:=(q1.new x hx).2
    simp only [Option.some.injEq] at e
    omega
  ·rw [List.mem_singleton] at he'
   subst he'
   have q1:EvF w.heap.size w6 { e with B:=A,n:=m,c:=c }:=⟨he.k,he.s,he.x1,he.x2,he.x3,he.x4,hm,hC.le,⟨xs,hC.rd⟩,hC.row,fun x hx=>⟨by have:=(hC.new x hx).1; omega,(hC.new x hx).2⟩⟩
   refine ⟨q1.keep (by omega) fun x hx=>k7 _ (hC.new x hx).1 (hC.new x hx).2,fun x hx e=>?_⟩
   have h1:=(hC.new x hx).1
   have h2:=(hC.new x hx).2
   rcases hb with hb | hb
   ·rw [hb] at e
    have:=hu _ e
    omega
   ·rw [hb] at e
    simp only [Option.some.injEq] at e
    omega
theorem own_after {w wr w6:World} {k:Nat} {u3:Value} {os:List Ev} {xs:List UInt8} {m c:Nat} {A:Option Addr} {cs:Array Value} (hF:FewI w k u3 os wr) (hC:Cp wr w6 xs A m c cs) (o:Obj):(w6.alloc o).ownsRow w.heap.size 48 10 u3 k (os.flatMap Ev.cells) :=
 ownsRow_keep hF.own fun g hg=>by
  have:=own_lt hF.own hg
  have:=hC.bel.size
  rw [alloc_same _ _ g (by omega)]
  exact hC.bel.block g (by omega)
theorem new_row (w:World) (e:Ev):Reads (w.alloc (.cells e.cells.toArray 48)) (w.heap.size+1) 10 (some ⟨w.heap.size,0,none⟩) 1 e.cells :=
 ⟨rfl,fun _=>⟨_,rfl,by simp,fun j u hu=>by rw [add_at rfl,SE.cell_at (heap_alloc_new w _),Nat.zero_add]; simpa using hu⟩⟩
theorem few_any {w:World} {b:Option Addr} {n c:Nat} (h:EvsIn w b n c):Calls Tryz.prog 9 #[.slice b n c] w fun e w' =>
  ∃ v es,e=.returned v∧es.length≤60∧FewI w es.length v es w':=by
 obtain ⟨hnc,hcm,es,hel,hek,hrd⟩:=h
 have hn63:n≤9223372036854775807:=by simp only [maxLen] at hcm; omega
 obtain ⟨d48,hd48,hr48⟩:=ev_un
 refine (callsIn_wide (n:=3)).1 (callsIn_of_wp Tryz.func9 rfl trivial ?_ rfl)
 simp only [Tryz.ntmps9,List.size_toArray,List.length_cons,List.length_nil,Nat.reduceAdd,Nat.reduceSub,Array.replicate_succ,Array.replicate_zero,List.push_toArray,List.append_toArray,List.nil_append,List.cons_append]
 gi_wp2
 gi_loopw [3,4] (fun v i wr=>∃ (k:Nat) (os:List Ev),k≤n∧k≤60∧i=.int .i64 k∧FewI w k v os wr) (fun _ i _=>n - (intOf i).toNat)
 case atStart=>exact ⟨0,[],Nat.zero_le _,Nat.zero_le _,rfl,⟨(Below.refl _ _).alloc (Nat.le_refl _) _,own_empty w 48 10,rfl,fun e he=>by cases he⟩⟩
 case round =>
  obtain ⟨k,os,hk1,hk2,rfl,hF⟩:=hrel
  by_cases hlt:k<n∧k<60
  ·obtain ⟨ad,rfl,hadl,hcell⟩:=hrd.2 (by omega)
   obtain ⟨e,he⟩:∃ e,es[k]?=some e:=⟨es[k]'(by omega),List.getElem?_eq_getElem _⟩
   have hkc:∀ j v,e.cells[j]?=some v→w.cell? (ad.add (k*10+j))=some v:=fun j v hj=>by
    have hj10:j<10:=(List.getElem?_eq_some_iff.1 hj).1
    exact hcell _ _ ((flat_get he hj10).trans hj)
   have hspot:ad.spot=none:=by
    obtain ⟨e0,he0⟩:∃ e0,es[0]?=some e0:=⟨es[0]'(by omega),List.getElem?_eq_getElem _⟩
    have h0:=hcell 0 _ ((flat_get he0 (j:=0) (by omega)).trans rfl)
    exact (cell_obj h0).1
   obtain ⟨B,off,sp⟩:=ad
   cases hspot
   have hkc':∀ j v,e.cells[j]?=some v→wr.cell? ⟨B,off+k*10+j,none⟩=some v:=fun j v hj=>by
    have:=hkc j v hj
    rw [add_at rfl] at this
    rw [← this,← Nat.add_assoc]
    exact hF.bel.cell hadl
   have heo:=hek e (List.mem_of_getElem? he)
   obtain ⟨zk,zs,zB,zn,zc,zv,z1,z2,z3,z4,zg,zb⟩:=e
   have hzle:zn≤zc:=heo.le
   have hzmx:zc≤9223372036854775807:=heo.mx
   obtain ⟨xb,hxb⟩:=heo.rd
   simp only at hxb
   have hrb:Reads wr w.heap.size 1 zB zn (xb.map bv):=hxb.below hF.bel
   have hsw:w.heap.size≤wr.heap.size:=hF.bel.size
   obtain ⟨i5,hi5,hz5,hs5,hy5⟩:=info_parts by_info
   obtain ⟨i48,hi48,hz48,hs48,hy48⟩:=info_parts ev_info
   obtain ⟨wb,hwb⟩:∃ wb,wb=wr.alloc (Obj.cells #[.int .i64 zk,.int .i64 zs,.slice zB zn zc,.bool zv,.int .i64 z1,.int .i64 z2,.int .i64 z3,.int .i64 z4,.bool zg,.bool zb] 48):=⟨_,rfl⟩
   have szb:wb.heap.size=wr.heap.size+1:=by rw [hwb,alloc_size]
   have hE0:=own_empty wb 5 1
   rw [szb] at hE0
   have hbox:(wb.alloc (Obj.cells #[] 5)).heap[wr.heap.size]?=some (.cells #[.int .i64 zk,.int .i64 zs,.slice zB zn zc,.bool zv,.int .i64 z1,.int .i64 z2,.int .i64 z3,.int .i64 z4,.bool zg,.bool zb] 48 (0,0)):=by
    rw [alloc_same _ _ _ (by omega),hwb]
    exact heap_alloc_new wr _
   have hr2:∀ m,m≤zn→Reads (wb.alloc (Obj.cells #[] 5)) w.heap.size 1 zB m ((xb.take m).map bv):=fun m hm=>by
    have h1:=(hrb.alloc hsw (Obj.cells #[.int .i64 zk,.int .i64 zs,.slice zB zn zc,.bool zv,.int .i64 z1,.int .i64 z2,.int .i64 z3,.int .i64 z4,.bool zg,.bool zb] 48))
    rw [← hwb] at h1
    have h2:=(h1.alloc (by omega) (Obj.cells #[] 5)).take hm
    rwa [Nat.mul_one,← List.map_take] at h2
   have hone:∀ m,∀ u∈(xb.take m).map bv,u.oneCell'=true:=fun m u hu=>bytes_one u hu
   rw [hwb] at hE0 hbox hr2
   have hm1:(if (120:Int)<zn then (120:Int) else zn).toNat≤120:=by split <;> omega
   have hm2:(if (120:Int)<zn then (120:Int) else zn).toNat≤zn:=by split <;> omega
   have hmx:0+(if (120:Int)<zn then (120:Int) else zn).toNat≤maxLen:=by simp only [maxLen]; omega
   gi_wp2_with (first
    | (refine in_loadC (b:=B) (off:=off+k*10) (vs:=[.int .i64 zk,.int .i64 zs,.slice zB zn zc,.bool zv,.int .i64 z1,.int .i64 z2,.int .i64 z3,.int .i64 z4,.bool zg,.bool zb]) (d:=d48) rfl rfl rfl hkc' hd48 hr48 ev_size ?_)
    | (gi_at_builtin; refine wpListIn_append_any rfl _ _ 23 rfl (wr.heap.size+1) 5 i5 _ 1 1 Tryz.underlying23 hi5 hz5 hs5 hy5 rfl (by omega) (.slice (some ⟨wr.heap.size+1,0,none⟩) 0 0) 0 [] rfl hE0 w.heap.size zB _ zc _ rfl (hr2 (if (120:Int)<zn then (120:Int) else zn).toNat hm2) (hone _) hmx (by omega) (by rw [alloc_size,alloc_size]; omega) fun v5 w5 ho5 hg5 hb5=>?_; simp only [Act.put,List.setIfInBounds_toArray,List.set_cons_succ,List.set_cons_zero]; have hc5:=own_cells ho5; have hbox5:=(hg5.block wr.heap.size (by rw [alloc_size,alloc_size]; omega) (fun e=>by simp only [Value.ownBlock,Option.some.injEq] at e; omega)).trans hbox; refine in_field rfl rfl rfl (f48_2 _ _) ?_; simp only [Act.put,List.setIfInBounds_toArray,List.set_cons_succ,List.set_cons_zero]; refine in_store (b:=wr.heap.size) (off:=2) (xs:=#[v5]) rfl rfl rfl rfl hc5.1 (fun u hu=>by simp only [List.mem_singleton] at hu; rw [hu]; exact hc5.2) sl23_info hbox5 (by simp) fun w6 hw6=>?_; simp only [Act.put,List.setIfInBounds_toArray,List.set_cons_succ,List.set_cons_zero]; clear hc5 hbox5 hb5; obtain ⟨A6,c6,rfl,hC6'⟩:=copy_ok hg5 ho5 hw6; clear hg5 ho5 hw6; have hC6:Cp wr w6 _ A6 _ c6 #[.int .i64 zk,.int .i64 zs,.slice A6 (if (120:Int)<zn then (120:Int) else zn).toNat c6,.bool zv,.int .i64 z1,.int .i64 z2,.int .i64 z3,.int .i64 z4,.bool zg,.bool zb]:=hC6'; clear hC6')
    | (refine in_loadC (b:=wr.heap.size) (off:=0) (vs:=[.int .i64 zk,.int .i64 zs,.slice A6 (if (120:Int)<zn then (120:Int) else zn).toNat c6,.bool zv,.int .i64 z1,.int .i64 z2,.int .i64 z3,.int .i64 z4,.bool zg,.bool zb]) (d:=d48) rfl rfl rfl (fun j v hv=>by rw [SE.cell_at hC6.box,Nat.zero_add]; simpa using hv) hd48 hr48 ev_size ?_)
    | (gi_at_builtin; refine wpListIn_append_any rfl _ _ 29 rfl w.heap.size 48 i48 _ 10 96 Tryz.underlying29 hi48 hz48 hs48 hy48 rfl (by omega) u3 k _ rfl (own_after hF ‹Cp wr _ _ _ _ _ _› _) _ _ 1 _ _ rfl (new_row _ ⟨zk,zs,_,_,_,zv,z1,z2,z3,z4,zg,zb⟩) (ev_one _) (by simp only [maxLen]; omega) (by omega) (by rw [alloc_size]; have:=(‹Cp wr _ _ _ _ _ _›).one; omega) fun v7 w7 ho7 hg7 hb7=>?_; simp only [Act.put,List.setIfInBounds_toArray,List.set_cons_succ,List.set_cons_zero]; have hN:=few_next hF heo hm1 ‹Cp wr _ _ _ _ _ _› ho7 hg7 hb7; clear ho7 hg7 hb7))
   all_goals refine ⟨⟨k+1,_,by omega,by omega,?_,hN⟩,by simp [intOf]; omega⟩
   all_goals first | rfl | (simp; done) | trace_state
  ·gi_wp2
   all_goals go_ret
   all_goals exact ⟨_,os,rfl,by have:=hF.len; omega,by rw [hF.len]; exact hF⟩
end In
end
section
namespace SE
open Go.RowKit Mc
variable {w w' w00:World} {pc:Array Value}
def StepR (k s:Int) (b:Bool):Option Num→Option Num→List Rc→Prop
 | none,od,rs=>od=none∧rs=[]
 | some d,some d',rs=>∃ late who,Rel late who d d' rs∧(late=true→k=3∨k=2∧b=true)∧∀ x,who x→k=0∧s=x
 | some _,none,_=>False
theorem most_eq {pc':Array Value} (hs:∀ i,i<56→isK i=true→pc'[i]?=pc[i]?):mostOf pc'=mostOf pc:=by
 have e:∀ i,i<56→isK i=true→pI pc' i=pI pc i:=fun i hi hk=>by simp only [pI,hs i hi hk]
 simp only [mostOf,e 51 (by omega) rfl,e 52 (by omega) rfl,e 53 (by omega) rfl]
theorem gl_low (hw00:GlW w00) {n:Nat} {cs:List SV} (h:glT n=some cs):n<w00.heap.size:=(hw00 n cs h).1
theorem frm_below {M:Nat} {MO:Foot} {od:Option Num} (hbl:Below w00.heap.size w00 w) (hF:Frm MO w w') (h:MachD pc w00 M MO w od) (h':∃ MO',MachD pc w00 M MO' w' od∨∃ od',MachD pc w00 M MO' w' od'∧(od=none→od'=none)∧(od'=none→od=none)):Below w00.heap.size w00 w':=by
 have hsz:=hbl.size
 refine ⟨hF.os.trans hbl.os,hF.tape.trans hbl.tape,hF.output.trans hbl.output,Nat.le_trans hbl.size hF.size,fun n hn=>?_⟩
 have dead:MachD pc w00 M MO w none→w'.heap[n]?=w00.heap[n]?:=fun h=>by
  rw [hF.same n (by omega) (fun hm=>by have:=(h.2.2.1 n hm).2; omega)]
  exact hbl.block n hn
 have alive:∀ {d:Num} {MO':Foot},MachD pc w00 M MO' w' (some d)→w'.heap[n]?=w00.heap[n]?:=fun h=>by
  obtain ⟨pc',Bc,_,_,⟨O,g,hK,_⟩,_⟩:=h
  obtain ⟨⟨E,hG,_⟩,_⟩:=hK
  exact hG.frame n hn (fun h=>h)
 cases od with
 | none=>exact dead h
 | some d =>
  obtain ⟨MO',h' | ⟨od',h',_,h2⟩⟩:=h'
  ·exact alive h'
  ·cases od' with
   | none=>cases h2 rfl
   | some d'=>exact alive h'
theorem machD_step (hp:0≤mostOf pc) (hw00:GlW w00) (hbl:Below w00.heap.size w00 w) {M:Nat} {MO:Foot} {k s x1 x2 x3 x4:Int} {B:Option Addr} {n c:Nat} {v gv b:Bool} {x:List UInt8} {od:Option Num}
  (hI:MachD pc w00 M MO w od) (hk:isI64 k) (hs:isI64 s) (h1:isI64 x1) (h2:isI64 x2) (h3:isI64 x3) (h4:isI64 x4) (hrd:Reads w w.heap.size 1 B n (x.map bv)) (hn:n≤120) (hc:n≤c)
  (hb:ByteRow w B n) (hB:∀ x,B=some x→x.block<w.heap.size∧¬ MO x.block) :
  Calls Tryz.prog 10 #[.pointer (some ⟨M,0,none⟩),.agg #[i64 k,i64 s,.slice B n c,.bool v,i64 x1,i64 x2,i64 x3,i64 x4,.bool gv,.bool b]] w fun e w' =>
   ∃ t rs od',∃ MO':Foot,e=.returned t∧MachD pc w00 M MO' w' od'∧(∀ n,MO' n→grow MO w w' n)∧Frm MO w w'∧Below w00.heap.size w00 w'∧ToldR (mostOf pc) w' t rs∧rs.length≤8000∧StepR k s b od od' rs∧∀ cs x n c,t=.agg cs→cs[13]?=some (.slice (some x) n c)→¬ MO' x.block:=by
 have hx:∀ x∈[x1,x2,x3,x4],-9223372036854775808≤x∧x≤9223372036854775807:=by
  intro x hx
  simp only [List.mem_cons,List.not_mem_nil,or_false] at hx
  rcases hx with rfl | rfl | rfl | rfl
  ·exact h1
  ·exact h2
  ·exact h3
  ·exact h4
 cases od with
 | none =>
  have hI':=hI
  obtain ⟨hD,hMM,hlt,hw⟩:=hI
  have hM:=hlt M hMM
  obtain ⟨z,hz,hh⟩:=hD
  have hMg:∀ cs,glT M≠some cs:=fun cs h=>by have:=gl_low hw00 h; omega
  refine (dead_step hw ⟨z,⟨by omega,by omega⟩,hh⟩ hk hs h1 h2 h3 h4 hn hc hb (fun x hx=>⟨(hB x hx).1,fun e=>(hB x hx).2 (by rw [e]; exact hMM)⟩) hMg).mono fun e w' he=>?_
  obtain ⟨hbe,rfl⟩:=he
  have hF:Frm MO w w':=⟨hbe.size,fun n hn _=>hbe.block n hn,hbe.os,hbe.tape,hbe.output⟩
  have hN:MachD pc w00 M (grow MO w w') w' none:=by
   refine ⟨⟨z,hz,(hbe.block M hM.1).trans hh⟩,.inl hMM,?_,hw.belowW hbe⟩
   rintro n (h | h)
   ·exact ⟨Nat.lt_of_lt_of_le (hlt n h).1 hbe.size,(hlt n h).2⟩
   ·exact ⟨h.2,by have:=hbl.size; omega⟩
  exact ⟨_,[],none,_,rfl,hN,fun n h=>h,hF,frm_below hbl hF hI' ⟨_,.inl hN⟩,dead_told hp,by simp,⟨rfl,rfl⟩,fun cs x n c hcs hx=>by cases hcs; cases hx⟩
 | some d =>
  have hI':=hI
  obtain ⟨pc',Bc,hp',hsame,hI⟩:=hI
  have hst:=step_ok (core_i hp' w00 Bc) (fun l d=>Rel.refl _ d) (fun l d1 d2 d3 r1 r2=>Rel.trans) hI (k:=k) (s:=s) (v:=v) (gv:=gv) (b:=b) (c:=c) hx hrd hn fun x hx=>(hB x hx).2
  refine (callsIn_wide.1 hst).mono fun e w' he=>?_
  obtain ⟨d',t,rs,MO',rfl,q1,qs,q2,q3,q4,q5,q6⟩:=he
  have hN:MachD pc w00 M MO' w' (some d'):=⟨pc',Bc,hp',hsame,q1⟩
  rw [most_eq hsame] at q3
  refine ⟨t,rs,some d',MO',rfl,hN,qs,q2,frm_below hbl q2 hI' ⟨_,.inr ⟨_,hN,(fun h=>by cases h),(fun h=>by cases h)⟩⟩,q3,q4,?_,q6⟩
  rcases q5 with ⟨e0,l,e1,l1,l2,r⟩ | ⟨e0,r⟩ | ⟨e0,r⟩ | ⟨e0,r⟩ | ⟨e0,e1⟩
  ·exact ⟨_,_,r,(fun h=>by cases h),fun x hx=>⟨e0,by rw [e1,hx]⟩⟩
  ·exact ⟨_,_,r,(fun h=>by cases h),fun x hx=>hx.elim⟩
  ·exact ⟨_,_,r,fun h=>.inr ⟨e0,h⟩,fun x hx=>hx.elim⟩
  ·exact ⟨_,_,r,fun h=>.inl e0,fun x hx=>hx.elim⟩
  ·rw [← e0,e1]
   exact ⟨_,_,Rel.refl (fun _=>False) d,(fun h=>by cases h),fun x hx=>hx.elim⟩
end SE
end
section
namespace SE
open Go.RowKit Mc In
variable {w w' wr wr':World} {pc:Array Value} {M r base hi:Nat} {v:Value} {es:List Ev} {MO:Foot} {od:Option Num}
structure LawL (pc:Array Value) (w:World) (M r base hi:Nat) (v:Value) (es:List Ev) (MO:Foot) (od:Option Num) (wr:World):Prop where
 mach:MachD pc w M MO wr od
 bel:Below w.heap.size w wr
 top:hi≤wr.heap.size
 rlo:w.heap.size≤r∧r<wr.heap.size∧¬ MO r
 pol:wr.heap[r]?=some (.cells pc 28 (0,0))
 own:wr.ownsRow base 48 10 v es.length (es.flatMap Ev.cells)
 olt:∀ g,v.ownBlock=some g→g<hi
 ev:∀ e∈es,EvF base wr e
 elt:∀ e∈es,∀ x,e.B=some x→x.block<hi
 far:∀ n,base≤n→n<hi→¬ MO n
 blo:w.heap.size≤base
theorem LawL.lt (h:LawL pc w M r base hi v es MO od wr):∀ n,MO n→n<wr.heap.size:=h.mach.lt
theorem LawL.upd (hw:GlW w) (h:LawL pc w M r base hi v es MO od wr) (hsz:wr.heap.size≤wr'.heap.size) (hs:∀ n,n<wr.heap.size→(n=r∨(base≤n∧n<hi)∨MO n∨n<w.heap.size)→wr'.heap[n]?=wr.heap[n]?)
  (ho:wr'.os=wr.os) (ht:wr'.tape=wr.tape) (hu:wr'.output=wr.output):LawL pc w M r base hi v es MO od wr':=by
 have hb:Below w.heap.size w wr':=⟨ho.trans h.bel.os,ht.trans h.bel.tape,hu.trans h.bel.output,Nat.le_trans h.bel.size hsz,fun n hn=>by
  have:=h.bel.size
  rw [hs n (by omega) (.inr (.inr (.inr hn)))]
  exact h.bel.block n hn⟩
 refine ⟨h.mach.keep ⟨hsz,fun n hn=>hs n (h.lt n hn) (.inr (.inr (.inl hn))),ho,ht,hu⟩ (hw.belowW hb),hb,Nat.le_trans h.top hsz,⟨h.rlo.1,Nat.lt_of_lt_of_le h.rlo.2.1 hsz,h.rlo.2.2⟩,(hs r h.rlo.2.1 (.inl rfl)).trans h.pol,?_,h.olt,fun e he=>(h.ev e he).keep hsz fun x hx=>?_,h.elt,h.far,h.blo⟩
 ·refine ownsRow_keep h.own fun g hg=>hs g (own_lt h.own hg).2 (.inr (.inl ⟨(own_lt h.own hg).1,h.olt g hg⟩))
 ·exact hs _ ((h.ev e he).new x hx).2 (.inr (.inl ⟨((h.ev e he).new x hx).1,h.elt e he x hx⟩))
theorem LawL.more (hw:GlW w) (h:LawL pc w M r base hi v es MO od wr) (hb:Below wr.heap.size wr wr'):LawL pc w M r base hi v es MO od wr' :=
 h.upd hw hb.size (fun n hn _=>hb.block n hn) hb.os hb.tape hb.output
theorem LawL.set (hw:GlW w) (h:LawL pc w M r base hi v es MO od wr) {b t:Nat} {cs:Array Value} (hW:Wr wr wr' b cs t) (h1:w.heap.size≤b) (h2:b≠r) (h3:b<base∨hi≤b) (h4:¬ MO b):LawL pc w M r base hi v es MO od wr' :=
 h.upd hw (Nat.le_of_eq hW.size.symm) (fun n hn hc=>hW.same n (fun e=>by
  subst e
  rcases hc with hc | hc | hc | hc
  ·exact h2 hc
  ·omega
  ·exact h4 hc
  ·omega)) hW.os hW.tape hW.output
theorem LawL.start (hw:GlW w) {w3 w4:World} (hM:MachD pc w M MO w3 od) (hb:Below w.heap.size w w3) (hr:w.heap.size≤r) (hrM:¬ MO r) (hpol:w3.heap[r]?=some (.cells pc 28 (0,0))) (hF:FewI w3 es.length v es w4) :
  LawL pc w M r w3.heap.size w4.heap.size v es MO od w4:=by
 have h34:=hF.bel
 have hz:=h34.size
 have hb4:Below w.heap.size w w4:=⟨h34.os.trans hb.os,h34.tape.trans hb.tape,h34.output.trans hb.output,Nat.le_trans hb.size hz,fun n hn=>by
  have:=hb.size
  rw [h34.block n (by omega)]
  exact hb.block n hn⟩
 have hrl:=(Array.getElem?_eq_some_iff.1 hpol).1
 exact ⟨hM.keep ⟨hz,fun n hn=>h34.block n (hM.lt n hn),h34.os,h34.tape,h34.output⟩ (hw.belowW hb4),hb4,Nat.le_refl _,⟨hr,by omega,hrM⟩,(h34.block r hrl).trans hpol,hF.own,fun g hg=>(own_lt hF.own hg).2,fun e he=>(hF.ev e he).1,
  fun e he x hx=>((hF.ev e he).1.new x hx).2,fun n h1 h2 h3=>by have:=hM.lt n h3; omega,hb.size⟩
theorem own_form {n:Nat} {xs:List Value} (h:wr.ownsRow base 48 10 v n xs):∃ A c,v=.slice A n c∧n≤c∧c≤maxLen∧(0<n→∃ g,A=some ⟨g,0,none⟩):=by
 rcases h.2 with ⟨rfl,rfl⟩ | ⟨g,cap,cur,rfl,_,_,h1,h2,_⟩
 ·exact ⟨none,0,rfl,Nat.le_refl _,Nat.zero_le _,fun h=>absurd h (by omega)⟩
 ·exact ⟨_,_,rfl,h1,h2,fun _=>⟨g,rfl⟩⟩
theorem LawL.at_ {g c:Nat} (h:LawL pc w M r base hi (.slice (some ⟨g,0,none⟩) es.length c) es MO od wr) {i:Nat} (hi':i<es.length):∃ e,es[i]?=some e∧e∈es∧∀ (j:Nat) u,e.cells[j]?=some u→wr.cell? ⟨g,i*10+j,none⟩=some u:=by
 obtain ⟨e,he⟩:∃ e,es[i]?=some e:=⟨es[i],List.getElem?_eq_getElem hi'⟩
 refine ⟨e,he,List.mem_of_getElem? he,fun j u hu=>?_⟩
 have hr:=Reads.of_own h.own
 obtain ⟨ad,e1,_,e3⟩:=hr.2 (by
  rcases h.own.2 with ⟨h0,_⟩ | ⟨g',cap,cur,h0,_⟩
  ·cases h0
  ·cases h0; omega)
 cases e1
 have hj:j<10:=(List.getElem?_eq_some_iff.1 hu).1
 have:=e3 (i*10+j) u ((flat_get he hj).trans hu)
 rwa [add_at rfl,Nat.zero_add] at this
theorem LawL.after (h:LawL pc w M r base hi v es MO od wr) {MO':Foot} {od':Option Num} (h1:MachD pc w M MO' w' od') (hs:∀ n,MO' n→grow MO wr w' n) (h2:Frm MO wr w') (h3:Below w.heap.size w w'):LawL pc w M r base hi v es MO' od' w':=by
 have hng:∀ n,base≤n→n<hi→¬ MO' n:=fun n a b c=>by
  rcases hs n c with c | c
  ·exact h.far n a b c
  ·have:=h.top; omega
 refine ⟨h1,h3,Nat.le_trans h.top h2.size,⟨h.rlo.1,Nat.lt_of_lt_of_le h.rlo.2.1 h2.size,fun c=>by
  rcases hs r c with c | c
  ·exact h.rlo.2.2 c
  ·have:=h.rlo.2.1; omega⟩,(h2.same r h.rlo.2.1 h.rlo.2.2).trans h.pol,?_,h.olt,fun e he=>(h.ev e he).keep h2.size fun x hx=>?_,h.elt,hng,h.blo⟩
 ·refine ownsRow_keep h.own fun g hg=>h2.same g (own_lt h.own hg).2 (h.far g (own_lt h.own hg).1 (h.olt g hg))
 ·exact h2.same _ ((h.ev e he).new x hx).2 (h.far _ ((h.ev e he).new x hx).1 (h.elt e he x hx))
theorem LawL.step (hp:0≤mostOf pc) (hw:GlW w) (h:LawL pc w M r base hi v es MO od wr) {e:Ev} (he:e∈es) :
  Calls Tryz.prog 10 #[.pointer (some ⟨M,0,none⟩),.agg #[i64 e.k,i64 e.s,.slice e.B e.n e.c,.bool e.v,i64 e.x1,i64 e.x2,i64 e.x3,i64 e.x4,.bool e.g,.bool e.b]] wr fun e' w' =>
   ∃ t rs od',∃ MO':Foot,e'=.returned t∧LawL pc w M r base hi v es MO' od' w'∧(∀ n,MO' n→grow MO wr w' n)∧Frm MO wr w'∧ToldR (mostOf pc) w' t rs∧rs.length≤8000∧StepR e.k e.s e.b od od' rs∧∀ cs x n c,t=.agg cs→cs[13]?=some (.slice (some x) n c)→¬ MO' x.block:=by
 have q:=h.ev e he
 obtain ⟨x,hx⟩:=q.rd
 refine (machD_step hp hw h.bel h.mach q.k q.s q.x1 q.x2 q.x3 q.x4 hx q.n120 q.le q.row fun x hx=>⟨(q.new x hx).2,h.far _ (q.new x hx).1 (h.elt e he x hx)⟩).mono fun e' w' hh=>?_
 obtain ⟨t,rs,od',MO',rfl,h1,hs,h2,h3,h4,h5,h6,h7⟩:=hh
 exact ⟨t,rs,od',MO',rfl,h.after h1 hs h2 h3,hs,h2,h4,h5,h6,h7⟩
end SE
end
section
namespace SE
open Go.RowKit Mc
set_option maxHeartbeats 0
variable {w w':World}
def zPolL:List SV:=rep 5 (N 0)++rep 4 .nils++rep 47 (N 0)
def evZ:List SV:=[N 3,N 0,.nils,.ff,N 0,N 0,N 0,N 0,.ff,.ff]
def s14:SE.St:=⟨[(5,.ro 48 evZ)],[],[],50,[]⟩
def siteL:List SV:=rep 19 (N 0)++[.nils]++rep 5 .ff++rep 5 (N 0)++[.ff]
def fixL:List SV:=[N 4,N 1,N 0,N 0,N 0,N 0,N 2,N 4,N 0,N 2,N 4,N 0]
def zPolV:List Value:=List.replicate 5 (i64 0)++List.replicate 4 (.slice none 0 0)++List.replicate 47 (i64 0)
def evV:List Value:=[i64 3,i64 0,.slice none 0 0,.bool false,i64 0,i64 0,i64 0,i64 0,.bool false,.bool false]
def siteV:List Value:=List.replicate 19 (i64 0)++[.slice none 0 0]++List.replicate 5 (.bool false)++List.replicate 5 (i64 0)++[.bool false]
def fixV:List Value:=[i64 4,i64 1,i64 0,i64 0,i64 0,i64 0,i64 2,i64 4,i64 0,i64 2,i64 4,i64 0]
theorem zpol_cv:cvL zPolL=some zPolV:=by kernel_rfl
theorem ev_cv:cvL evZ=some evV:=by kernel_rfl
theorem site_cv:cvL siteL=some siteV:=by kernel_rfl
theorem fix_cv:cvL fixL=some fixV:=by kernel_rfl
def rowO (st:SE.St) (i:Nat):Bool:=match lk st.sls i with
 | some (.row b 1)=>(match lk st.heap b with
  | some (.row 43 46 sid cs)=>SV.beqCs cs deadL&&Nat.beq sid i
  | _=>false)
 | _=>false
def o14r (o:SV×SE.St):Bool:=match o.1 with
 | .tup [.sl i,s,e]=>SV.beq s (.agg siteL)&&(SV.beq e (N 40)&&rowO o.2 i)
 | _=>false
noncomputable def run14:Bool:=runO o14r (run (Xw (kL [])).T 60 14 [.agg zPolL,.slc 5 0 1 1] s14)
theorem run14_r:run14=true:=by decide +kernel
noncomputable def run15:Bool:=runIs (.agg fixL) (run (Xw (kL [])).T 60 15 [] emptySt)
theorem run15_r:run15=true:=by decide +kernel
def E14 (g:Nat):Env:=fun id=>if id=5 then some (.blk g) else none
theorem zpol_any (hw:GlW w) {g:Nat} {ps es:Array Value} (hps:ps.toList=zPolV) (hes:es.toList=evV) (hg:w.heap[g]?=some (.cells es 48 (0,0))) (hMg:∀ cs,glT g≠some cs) :
  Calls Tryz.prog 14 #[.agg ps,.slice (some ⟨g,0,none⟩) 1 1] w fun e w' =>
   Below w.heap.size w w'∧∃ (n c:Nat) (cs ss:Array Value),e=.returned (.tuple #[.slice (some ⟨n,0,none⟩) 1 c,.agg ss,i64 40])∧ss.toList=siteV∧w'.heap[n]?=some (.cells cs 43 (0,0))∧cs.toList.take 46=deadVs∧1≤c:=by
 have hG:G (Xw (kL [])) (fun _=>False) w (E14 g) s14 w:=by
  refine ⟨Nat.le_refl _,rfl,rfl,rfl,fun n _ _=>rfl,fun id blk hl=>?_,fun id id' b b' n hl hl' _ _=>?_,fun id lo hi hl=>(by simp [s14,lk] at hl),fun id i hl=>(by simp [s14,lk] at hl),fun id hid=>?_,fun g' cs hg'=>?_,fun x hx=>(by cases hx)⟩
  ·have hm:=lk_mem hl
   simp only [s14,List.mem_cons,List.not_mem_nil,or_false,Prod.mk.injEq] at hm
   obtain ⟨rfl,rfl⟩:=hm
   refine .inr ⟨g,rfl,(Array.getElem?_eq_some_iff.1 hg).1,.inl rfl,_,hg,?_⟩
   rw [hes]
   exact cvL_R ev_cv fun x _ v hv=>cvV_R hv
  ·have hm:=lk_mem hl
   have hm':=lk_mem hl'
   simp only [s14,List.mem_cons,List.not_mem_nil,or_false,Prod.mk.injEq] at hm hm'
   rw [hm.1,hm'.1]
  ·have hid:50≤id:=hid
   simp only [E14]
   rw [if_neg (by omega)]
  ·obtain ⟨h1,vs,e,fr,h2,h3⟩:=hw g' cs hg'
   refine ⟨h1,fun id blk hl' hE=>?_,vs,e,fr,h2,clL_ok (glT_cl g' cs hg') h3⟩
   have hm':=lk_mem hl'
   simp only [s14,List.mem_cons,List.not_mem_nil,or_false,Prod.mk.injEq] at hm'
   rw [hm'.1] at hE
   simp only [E14,if_true,Option.some.injEq,EV.blk.injEq] at hE
   subst hE
   exact hMg cs hg'
 have e:=run14_r
 unfold run14 at e
 cases hrun:run (Xw (kL [])).T 60 14 [.agg zPolL,.slc 5 0 1 1] s14 with
 | none=>rw [hrun] at e; cases e
 | some out =>
  rw [hrun] at e
  refine (run_ok (X:=Xw (kL [])) tabw pkw rkw (kok (X:=Xw (kL [])) (ks:=[]) trivial rfl _ w) 60 hrun hG (RL_cons.2 ⟨?_,RL_cons.2 ⟨?_,by simp [RL]⟩⟩)).mono fun e' w' he=>?_
  ·simp only [R]
   exact ⟨ps,rfl,by rw [hps]; exact cvL_R zpol_cv fun x _ v hv=>cvV_R hv⟩
  ·simp only [R]
   exact ⟨g,rfl,rfl⟩
  ·obtain ⟨⟨o1,o2⟩,ho,E',x,h1,rfl,h3,h4⟩:=he
   have hO:=allO_ok e _ ho
   simp only [o14r] at hO
   split at hO
   ·rename_i i s ee
    simp only [Bool.and_eq_true] at hO
    obtain ⟨k1,k2,k3⟩:=hO
    have:=SV.beq_eq _ _ k1
    subst this
    have:=SV.beq_eq _ _ k2
    subst this
    simp only [R] at h3
    obtain ⟨cs,rfl,h3⟩:=h3
    obtain ⟨l⟩:=cs
    match l,RL_length h3 with
    | [v0,v1,v2],_ =>
     obtain ⟨q0,h3⟩:=RL_cons.1 h3
     obtain ⟨q1,h3⟩:=RL_cons.1 h3
     obtain ⟨q2,h3⟩:=RL_cons.1 h3
     simp only [R] at q0 q1
     obtain ⟨base,len,cap,e0,rfl⟩:=q0
     obtain ⟨ss,rfl,hss⟩:=q1
     have q2':=cvV_ok (x:=N 40) (v:=i64 40) (by kernel_rfl) q2
     subst q2'
     unfold rowO at k3
     split at k3
     ·rename_i b hb
      split at k3
      ·rename_i sid cs hcs
       simp only [Bool.and_eq_true] at k3
       have a1:=SV.beqCs_eq k3.1
       have a2:=nbeq k3.2
       subst a1
       subst a2
       obtain ⟨n,cap',f1,f2⟩:=h4.sls _ _ hb
       rw [e0] at f2
       cases f2
       rcases h4.heap _ _ hcs with ⟨hh,_⟩ | ⟨n',g1,g2,g3,vs,len',cap'',g4,g5,g6,g7,g8,g9⟩
       ·cases hh
       ·rw [f1] at g1
        cases g1
        rw [e0] at g5
        cases g5
        exact ⟨below_of h4,n,cap,vs,ss,rfl,cvL_ok site_cv hss,g4,cvL_ok dead_cv g9,g8⟩
      ·cases k3
     ·cases k3
   ·cases hO
theorem fixed_any (hw:GlW w):Calls Tryz.prog 15 #[] w fun e w'=>∃ cs:Array Value,e=.returned (.agg cs)∧cs.toList=fixV∧Below w.heap.size w w':=by
 refine (pure_run (X:=Xw (kL [])) tabw pkw rkw (fun w=>kok (X:=Xw (kL [])) (ks:=[]) trivial rfl _ w) rfl (l:=fixL) (by decide +kernel) run15_r hw (by simp [RL])).mono fun e w' he=>?_
 obtain ⟨cs,rfl,h1,h2⟩:=he
 exact ⟨cs,rfl,cvL_ok fix_cv h1,h2⟩
end SE
end
end Go.Proofs.YtdgejnakakjgfaaGreatDoor
