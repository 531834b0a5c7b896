/- TopRoom. What comes in: the package's variables. What comes in: a policy. -/
import Derived.Test.YtdgejnakakjgfaaGreatDoorRows
import Derived.Test.YtdgejnakakjgfaaGreatDoorS02
import Derived.Test.YtdgejnakakjgfaaGreatDoorS03
import Derived.Test.YtdgejnakakjgfaaGreatDoorR10
import Derived.Test.YtdgejnakakjgfaaGreatDoorS00
import Derived.Test.YtdgejnakakjgfaaGreatDoorR18
import Derived.LoopNIn
import Derived.BigQuiet
import Derived.OpenShut
import Derived.MakeChecks
set_option linter.unusedVariables false
set_option linter.unusedSimpArgs false
set_option maxRecDepth 100000
namespace Go.Proofs.YtdgejnakakjgfaaGreatDoor
section
namespace SE
open Go.RowKit Mc In
attribute [local go_sem] Oper.semAt_some
set_option maxHeartbeats 0
theorem room_any {w:World} (hw:GlW w) {ps:Array Value} (hps:PolA w ps) {b:Option Addr} {n c:Nat} (he:EvsIn w b n c):Calls Tryz.prog 4 #[.agg ps,.slice b n c] w fun e w'=>e=.returned (.bool true)∧Below w.heap.size w w':=by
 refine (callsIn_wide (n:=3)).1 (callsIn_of_wp Tryz.func4 rfl trivial ?_ rfl)
 simp only [Tryz.ntmps4,List.size_toArray,List.length_cons,List.length_nil,Nat.reduceAdd,Nat.reduceSub,Array.replicate_succ,Array.replicate_zero,List.push_toArray,List.append_toArray,List.nil_append,List.cons_append]
 obtain ⟨d28,hd28,hr28⟩:=pol_un
 gi_wp2
 generalize hwA:World.alloc w _=wA
 have hbA:Below w.heap.size w wA:=by rw [← hwA]; exact (Below.refl _ _).alloc (Nat.le_refl _) _
 have hboxA:wA.heap[w.heap.size]?=some (.cells ps 28 (0,0)):=by rw [← hwA]; exact heap_alloc_new w _
 rename_i K1 hK1 K2 hK2
 refine ⟨trivial,?_⟩
 refine (callsIn_wide.2 (shown_any (hw.belowW hbA))).mono ?_
 rintro e w1 ⟨rfl,hb1⟩
 have hA1:=Below.to hbA hb1
 have hw1:=hw.belowW hA1
 have hlA:w.heap.size<wA.heap.size:=(Array.getElem?_eq_some_iff.1 hboxA).1
 have hbox1:w1.heap[w.heap.size]?=some (.cells ps 28 (0,0)):=(hb1.block _ hlA).trans hboxA
 refine hK2 _ _ ?_
 gi_wp2_with (refine in_load (b:=w.heap.size) (off:=0) (n:=56) (d:=d28) rfl rfl rfl hbox1 hd28 hr28 pol_info (by have:=hps.len; omega) ?_; rw [take_all hps.len])
 rename_i K3 hK3
 refine ⟨trivial,?_⟩
 refine (callsIn_wide.2 (made_alive (w00:=w) hw hA1 hw1 (hps.below hA1))).mono ?_
 rintro e w2 ⟨M,pc,MO,rfl,hb2,hw2,hpc,hM,hfar⟩
 refine hK3 _ _ ?_
 have hpl:pc.size=56:=by simpa using hpc.len
 have hone:=polR_one hpc
 have hb02:=Below.to hA1 hb2
 gi_wp2_with (first
  | (refine in_store (b:=w2.heap.size) (off:=0) (xs:=pc) (v:=.agg pc) rfl rfl rfl rfl rfl hone (by rw [hpl]; exact pol_info) (heap_alloc_new w2 _) (by rw [hpl]; simp) fun w3 hw3=>?_; simp only [Act.put,List.setIfInBounds_toArray,List.set_cons_succ,List.set_cons_zero]; obtain ⟨hb3,hpol3,hz3⟩:=set_pol hw3 rfl hpl; clear hw3)
  | fail)
 rename_i K4 hK4
 refine ⟨trivial,?_⟩
 have hb03:=Below.to hb02 hb3
 refine (callsIn_wide.2 (few_any (EvsIn.below he hb03))).mono ?_
 rintro e w4 ⟨v,es,rfl,hlen,hF⟩
 have hz2:=hb02.size
 have hmo:0≤mostOf pc:=Int.le_trans (hpc.fit.most 1 (by omega)).1 (Int.le_max_left _ _)
 have hM3:MachD pc w M MO w3 (some d00):=hM.keep ⟨hb3.size,fun n hn=>hb3.block n (hM.lt n hn),hb3.os,hb3.tape,hb3.output⟩ (hw.belowW hb03)
 have hL:=LawL.start hw hM3 hb03 hz2 (fun h=>by have:=hM.lt _ h; omega) hpol3 hF
 obtain ⟨A,c4,rfl,hc1,hc2,hA⟩:=own_form hF.own
 obtain ⟨d48,hd48,hr48⟩:=ev_un
 have hok:=hpc.fit.ok
 have hfit:=hpc.fit
 obtain ⟨d0,hd0⟩:∃ d0,d0=d00:=⟨_,rfl⟩
 rw [← hd0] at hL
 clear hF hone hM3 hM hpol3 hd0
 refine hK4 _ _ ?_
 gi_wp2
 gi_loopw [9] (fun i wr=>∃ (k:Nat) (MO:Foot) (d:Num),k≤es.length∧i=.int .i64 k∧LawL pc w M w2.heap.size w3.heap.size w4.heap.size (.slice A es.length c4) es MO (some d) wr) (fun i _=>es.length - (intOf i).toNat)
 case atStart=>exact ⟨0,MO,d0,Nat.zero_le _,rfl,hL⟩
 case round =>
  obtain ⟨k,MO5,d5,hk,rfl,hL5⟩:=hrel
  by_cases hlt:k<es.length
  ·obtain ⟨g,rfl⟩:=hA (by omega)
   obtain ⟨e,he5,hem,hat⟩:=hL5.at_ hlt
   have hstep:=hL5.step hmo hw hem
   obtain ⟨zk,zs,zB,zn,zc,zv,z1,z2,z3,z4,zg,zb⟩:=e
   gi_wp2_with (refine in_loadC (b:=g) (off:=k*10) (vs:=[.int .i64 zk,.int .i64 zs,.slice zB zn zc,.bool zv,.int .i64 z1,.int .i64 z2,.int .i64 z3,.int .i64 z4,.bool zg,.bool zb]) (d:=d48) rfl rfl rfl hat hd48 hr48 ev_size ?_)
   rename_i K5 hK5
   refine ⟨trivial,?_⟩
   refine (callsIn_wide.2 hstep).mono ?_
   rintro e w5 ⟨t,rs,od6,MO6,rfl,hL6,hs6,hF6,hT6,hrl6,hSt6,hno6⟩
   obtain ⟨d,rfl⟩:∃ d,od6=some d:=by
    cases od6 with
    | none=>exact hSt6.elim
    | some d=>exact ⟨d,rfl⟩
   refine hK5 _ _ ?_
   clear hT6 hno6 hSt6 hstep hF6 hrl6 hs6
   gi_wp2
   rename_i K6 hK6
   refine ⟨trivial,?_⟩
   refine (callsIn_wide.2 (hL6.site hw)).mono ?_
   rintro e w7 ⟨ss,rfl,hL8,hF8,hS8⟩
   have hss:=hS8.size
   have hone8:=hS8.one
   refine hK6 _ _ ?_
   gi_wp2_with (first
    | (refine in_store (b:=w7.heap.size) (off:=0) (xs:=ss) (v:=.agg ss) rfl rfl rfl rfl rfl hone8 (by rw [hss]; exact site_info) (heap_alloc_new w7 _) (by rw [hss]; decide) fun w8 hw8=>?_; simp only [Act.put,List.setIfInBounds_toArray,List.set_cons_succ,List.set_cons_zero])
    | fail)
   obtain ⟨hL9,hBs,hb78⟩:=LawL.box hw hL8 hw8 (by rw [hss]; decide)
   have hlt8:=hL8.lt
   generalize hMO8:grow MO6 w5 w7=MO8 at *
   obtain ⟨q,h,o,hD8⟩:∃ q h o,SiteR pc d MO8 w7 ss q h o:=hS8
   have hD9:=hD8.keep (w':=w8) hb78.size fun n hn=>hb78.block n (hlt8 n hn)
   clear hw8 hL8 hF8 hD8 hL6 hone8 hL
   obtain ⟨n48,n49,hn48,hn49⟩:∃ n48 n49,n48=pI pc 48∧n49=pI pc 49:=⟨_,_,rfl,rfl⟩
   have c48:w8.cell? ⟨w2.heap.size,48,none⟩=some (.int .i64 n48):=by rw [SE.cell_at hL9.pol,hn48]; exact hok.2 48 (by omega) (.inr (by omega))
   have c49:w8.cell? ⟨w2.heap.size,49,none⟩=some (.int .i64 n49):=by rw [SE.cell_at hL9.pol,hn49]; exact hok.2 49 (by omega) (.inr (by omega))
   have hroom:=hD9.room
   have hql:=hD9.qlen
   rw [← hn48] at hql
   rw [← hn49] at hroom
   have hq3:q.length≤3:=by simpa using List.all_eq_true.1 seqs_len q hD9.mem
   have h01:=hD9.on01
   have hon:=hD9.on
   have x24:=hBs.cell hD9.safe
   have x0:w8.cell? ⟨w7.heap.size,0,none⟩=some (.int .i64 h):=hBs.cell hD9.hold
   have x2:w8.cell? ⟨w7.heap.size,2,none⟩=some (.int .i64 o):=hBs.cell hD9.offer
   obtain ⟨qB,qc,e19,_⟩:=hD9.que
   have x19:=hBs.cell e19
   have hoff:=hD9.oq
   obtain ⟨o0,o1,o3⟩:=hD9.orng
   have xon:∀ s:Nat,1≤s→s≤3→w8.cell? ⟨w7.heap.size,20+s,none⟩=some (.bool (decide (get3 d.on s≠0))):=fun s a b=>hBs.cell (hon s a b)
   have hcr:=cnt_rng h01
   have hsw:w7.heap.size<w8.heap.size:=hBs.lt
   have hrw:w2.heap.size<w8.heap.size:=hL9.rlo.2.1
   gi_wp2
   gi_loopw [11,12] (fun v i wr=>∃ s:Nat,1≤s∧s≤4∧i=.int .i64 s∧v=.int .i64 (cntOn d.on s)∧w8=wr) (fun _ i _=>4 - (intOf i).toNat)
   case atStart=>exact ⟨1,by omega,by omega,rfl,rfl,rfl⟩
   case round =>
    obtain ⟨s,hs1,hs4,rfl,rfl,rfl⟩:=hrel
    by_cases hs3:s≤3
    ·have hcs:=hcr s
     have hst:=cnt_step d.on hs1 hs3
     have hx:=xon s hs1 hs3
     rcases h01 s (by omega) (by omega) with h0 | h1
     ·rw [h0] at hst
      rw [show decide (get3 d.on s≠0)=false by simp [h0]] at hx
      generalize hcn:cntOn d.on s=cn at *
      clear x24 x0 x2 x19 c48 c49
      gi_wp2
      exact ⟨⟨s+1,by omega,by omega,rfl,by rw [hst]; simp,trivial⟩,by simp [intOf]; omega⟩
     ·rw [h1] at hst
      rw [show decide (get3 d.on s≠0)=true by simp [h1]] at hx
      generalize hcn:cntOn d.on s=cn at *
      clear x24 x0 x2 x19 c48 c49
      gi_wp2
      exact ⟨⟨s+1,by omega,by omega,rfl,by rw [hst],trivial⟩,by simp [intOf]; omega⟩
    ·obtain rfl:s=4:=by omega
     have hc4:cntOn d.on 4≤n49:=by simpa [cntOn] using hroom
     have hc0:=(hcr 4).1
     generalize cntOn d.on 4=cn at *
     have hgo:o<0∨∃ t:Nat,1≤t∧t≤3∧o=t∧h≠o∧w8.cell? ⟨w7.heap.size,20+t,none⟩=some (.bool true):=by
      by_cases hon:o<0
      ·exact .inl hon
      ·refine .inr ⟨o.toNat,by omega,by omega,by omega,?_,?_⟩
       ·have:=(hoff o (by omega) o3 rfl).2
        exact this
       ·have:=(hoff o (by omega) o3 rfl).1
        have hx:=xon o.toNat (by omega) (by omega)
        have et:((o.toNat:Nat):Int)=o:=by omega
        rw [et,show decide (get3 d.on o≠0)=true by rw [this]; simp] at hx
        exact hx
     clear xon hoff hcr h01 hon hroom
     have hI2:=hL9.more hw (below_alloc w8 (.cells (bv5 fun _=>false) 53))
     have hIa:OwnB w (w8.alloc (.cells (bv5 fun _=>false) 53)) w2.heap.size w3.heap.size w4.heap.size MO8 w8.heap.size (bv5 fun _=>false) 53:=hL9.new
     have hSa:=hBs.more (below_alloc w8 (.cells (bv5 fun _=>false) 53))
     have hDa:=hD9.keep (w':=w8.alloc (.cells (bv5 fun _=>false) 53)) (below_alloc w8 _).size fun n hn=>(below_alloc w8 _).block n (hL9.lt n hn)
     have hRI:RoomI pc w M w2.heap.size w3.heap.size w4.heap.size (.slice (some ⟨g,0,none⟩) es.length c4) es MO8 d w7.heap.size w8.heap.size ss (fun _=>false) q h o (w8.alloc (.cells (bv5 fun _=>false) 53)):=⟨hI2,hSa,hIa,hDa,by omega⟩
     clear hI2 hIa hSa hDa
     rcases hgo with hneg | ⟨t,ht1,ht3,hot,hne,hxt⟩
     rotate_left
     rw [hot] at x2 hne
     have hbe:((t:Int) == h)=false:=by simpa using Ne.symm hne
     all_goals gi_wp2
     all_goals
      obtain ⟨bi,hbi⟩:∃ bi,bi=w8.heap.size:=⟨_,rfl⟩
      rw [← hbi] at hRI
      rw [← hbi]
      clear hbi
      clear x24 x0 x2 x19 c48 c49
      gi_loopw [14] (fun i wr=>∃ (p:Nat) (f:Nat→Bool),p≤q.length∧i=.int .i64 p∧RoomI pc w M w2.heap.size w3.heap.size w4.heap.size (.slice (some ⟨g,0,none⟩) es.length c4) es MO8 d w7.heap.size bi ss f q h o wr∧∀ s:Nat,1≤s→s≤3→f s=decide (s∈q.take p)) (fun i _=>q.length - (intOf i).toNat)
      case atStart=>exact ⟨0,fun _=>false,Nat.zero_le _,rfl,hRI,fun s _ _=>by simp⟩
      case round =>
       clear hRI
       obtain ⟨p,f,hp,rfl,hI,hf⟩:=hrel
       by_cases hpl2:p<q.length
       ·obtain ⟨g3,off3,qc2,s,e19',hqp,⟨s1,s3⟩,hcp,⟨hg3,hF3⟩,e20,hhs,hnt,hprev⟩:=hI.D.who hfit hpl2
        have x19:=hI.S.cell e19'
        have x20:wr.cell? ⟨w7.heap.size,20+s,none⟩=some (.bool true):=hI.S.cell e20
        have x0:wr.cell? ⟨w7.heap.size,0,none⟩=some (.int .i64 h):=hI.S.cell hI.D.hold
        have hfs:f s=false:=by rw [hf s s1 s3]; simpa using hnt
        have xi:wr.cell? ⟨bi,s,none⟩=some (.bool false):=by
         have:=hI.I.cell (bv5_get f (show s<5 by omega))
         rwa [hfs] at this
        have hpB:=hI.I.hp
        have hbs:((s:Int) == h)=false:=by simpa using Ne.symm hhs
        gi_wp2_with (first
         | (refine in_store (b:=bi) (off:=s) (xs:=#[.bool true]) (v:=.bool true) rfl rfl rfl rfl rfl one_b flag_info hpB (by show s+1≤5; omega) fun wq hwq=>?_; simp only [Act.put,List.setIfInBounds_toArray,List.set_cons_succ,List.set_cons_zero])
         | fail)
        rw [bv5_put f (by omega)] at hwq
        have hI2:=hI.put hw hwq
        have hf2:=in_take hqp hf
        have hgb:g3≠bi:=fun e=>hI.I.nm (e ▸ hF3)
        have cq:∀ x,Below wq.heap.size wq x→∀ i,x.cell? ⟨g3,i,none⟩=wr.cell? ⟨g3,i,none⟩:=fun x hx i=>World.cell?_of_block ((hx.block g3 (by rw [hwq.size]; exact hg3)).trans (hwq.same g3 hgb))
        have hpol:∀ x,Below wq.heap.size wq x→x.heap[w2.heap.size]?=some (.cells pc 28 (0,0)):=fun x hx=>(hI2.more hw hx).L.pol
        have c19:∀ x,Below wq.heap.size wq x→x.cell? ⟨w7.heap.size,19,none⟩=some (.slice (some ⟨g3,off3,none⟩) q.length qc2):=fun x hx=>(hI2.more hw hx).S.cell e19'
        have hmx:Tryz.prog.follows .mixedOrders=true:=by kernel_rfl
        obtain ⟨i52,ha52,hb52,hs52⟩:=queue_sl
        clear x19 x20 x0 xi hpB
        refine wpIn_wide.2 (region_c (fun x=>Below wq.heap.size wq x) hmx (by kernel_rfl) ⟨rfl,rfl,rfl,Nat.le_refl _,fun _ _=>rfl⟩ ?_)
        cases p with
        | zero =>
         refine q_val (v:=.int .i64 ((0:Nat):Int)) (by kernel_rfl) (fun w hC=>by kernel_rfl) ?_; simp only [Act.put,List.setIfInBounds_toArray,List.set_cons_succ,List.set_cons_zero]
         refine q_val (v:=.bool true) (by kernel_rfl) (fun w hC=>by kernel_rfl) ?_; simp only [Act.put,List.setIfInBounds_toArray,List.set_cons_succ,List.set_cons_zero]
         refine q_val (v:=.bool true) (by kernel_rfl) (fun w hC=>by kernel_rfl) ?_; simp only [Act.put,List.setIfInBounds_toArray,List.set_cons_succ,List.set_cons_zero]
         go_big_quiet_skip
         go_big_quiet_skip
         go_big_quiet_skip
         go_big_quiet_skip
         go_big_quiet_skip
         go_big_quiet_skip
         go_big_quiet_skip
         go_big_quiet_skip
         go_big_quiet_skip
         refine q_val (v:=.bool true) (by kernel_rfl) (fun w hC=>by kernel_rfl) ?_; simp only [Act.put,List.setIfInBounds_toArray,List.set_cons_succ,List.set_cons_zero]
         refine q_val (v:=.bool true) (by kernel_rfl) (fun w hC=>by kernel_rfl) ?_; simp only [Act.put,List.setIfInBounds_toArray,List.set_cons_succ,List.set_cons_zero]
         refine wpQuiet_nil ?_
         intro wE hE
         rename_i KX hKX
         refine hKX _ _ ?_
         clear hpol c19 cq
         gi_wp2
         exact ⟨⟨0+1,updB f s true,by omega,rfl,hI2.more hw hE,hf2⟩,by simp [intOf]; omega⟩
        | succ p =>
         obtain ⟨s',hrk,hcp'⟩:=hprev p rfl
         refine q_val (v:=.int .i64 ((p+1:Nat):Int)) (by kernel_rfl) (fun w hC=>by kernel_rfl) ?_; simp only [Act.put,List.setIfInBounds_toArray,List.set_cons_succ,List.set_cons_zero]
         refine q_val (v:=.bool false) (by kernel_rfl) (fun w hC=>by kernel_rfl) ?_; simp only [Act.put,List.setIfInBounds_toArray,List.set_cons_succ,List.set_cons_zero]
         refine q_val (v:=.bool false) (by kernel_rfl) (fun w hC=>by kernel_rfl) ?_; simp only [Act.put,List.setIfInBounds_toArray,List.set_cons_succ,List.set_cons_zero]
         refine q_val (v:=.agg pc) (by kernel_rfl) (fun w hC=>(run_rowload (b:=w2.heap.size) (off:=0) (n:=56) (d:=d28) rfl (by kernel_rfl) (hpol w hC) hd28 hr28 pol_info (by omega)).trans (by rw [take_all hpl])) ?_; simp only [Act.put,List.setIfInBounds_toArray,List.set_cons_succ,List.set_cons_zero]
         refine q_val (v:=.pointer (some ⟨w7.heap.size,19,none⟩)) (by kernel_rfl) (fun w hC=>by kernel_rfl) ?_; simp only [Act.put,List.setIfInBounds_toArray,List.set_cons_succ,List.set_cons_zero]
         refine q_val (v:=.slice (some ⟨g3,off3,none⟩) q.length qc2) (by kernel_rfl) (fun w hC=>run_loadS (b:=w7.heap.size) (off:=19) rfl (by kernel_rfl) (c19 w hC) ha52) ?_; simp only [Act.put,List.setIfInBounds_toArray,List.set_cons_succ,List.set_cons_zero]
         refine q_val (v:=.int .i64 ((p+1:Nat):Int)) (by kernel_rfl) (fun w hC=>by kernel_rfl) ?_; simp only [Act.put,List.setIfInBounds_toArray,List.set_cons_succ,List.set_cons_zero]
         refine q_val (v:=.int .i64 (p:Nat)) (by kernel_rfl) (fun w hC=>run_less1 rfl (by kernel_rfl) (by kernel_rfl) (by omega)) ?_; simp only [Act.put,List.setIfInBounds_toArray,List.set_cons_succ,List.set_cons_zero]
         refine q_val (v:=.pointer (some ⟨g3,off3+p,none⟩)) (by kernel_rfl) (fun w hC=>run_idxS (b:=g3) (off:=off3) (n:=q.length) (c:=qc2) (m:=p) rfl (by kernel_rfl) (by kernel_rfl) ha52 hb52 hs52 (by omega)) ?_; simp only [Act.put,List.setIfInBounds_toArray,List.set_cons_succ,List.set_cons_zero]
         refine q_val (v:=(.int .i64 (s':Int))) (by kernel_rfl) (fun w hC=>run_load1 (b:=g3) (off:=off3+p) rfl (by kernel_rfl) ((cq w hC _).trans hcp') Tryz.underlying3 (.inr ⟨_,rfl⟩)) ?_; simp only [Act.put,List.setIfInBounds_toArray,List.set_cons_succ,List.set_cons_zero]
         refine q_val (v:=.int .i64 (s:Int)) (by kernel_rfl) (fun w hC=>by kernel_rfl) ?_; simp only [Act.put,List.setIfInBounds_toArray,List.set_cons_succ,List.set_cons_zero]
         refine q_call (v:=.bool true) (f:=12) (args:=#[.agg pc,.int .i64 (s':Int),.int .i64 (s:Int)]) (by kernel_rfl) (fun w hC=>run_callf rfl Tryz.func12 name12 body12 (by kernel_rfl)) (fun w hC=>(rhigher_any pc s' s w hok hpl hrk).mono fun e w' h=>⟨h.1,Below.to hC h.2⟩) ?_; simp only [Act.put,List.setIfInBounds_toArray,List.set_cons_succ,List.set_cons_zero]
         refine q_val (v:=.bool true) (by kernel_rfl) (fun w hC=>by kernel_rfl) ?_; simp only [Act.put,List.setIfInBounds_toArray,List.set_cons_succ,List.set_cons_zero]
         refine q_val (v:=.bool true) (by kernel_rfl) (fun w hC=>by kernel_rfl) ?_; simp only [Act.put,List.setIfInBounds_toArray,List.set_cons_succ,List.set_cons_zero]
         refine wpQuiet_nil ?_
         intro wE hE
         rename_i KX hKX
         refine hKX _ _ ?_
         clear hpol c19 cq
         gi_wp2
         exact ⟨⟨p+1+1,updB f s true,by omega,rfl,hI2.more hw hE,hf2⟩,by simp [intOf]; omega⟩
       ·obtain ⟨qB',qc',e19',_⟩:=hI.D.que
        have x19:=hI.S.cell e19'
        obtain rfl:p=q.length:=by omega
        gi_wp2
        exact ⟨⟨k+1,MO8,d,by omega,rfl,hI.L⟩,by simp [intOf]; omega⟩
  ·gi_wp2
   go_ret
   exact ⟨rfl,hL5.bel⟩
end SE
end
section
namespace In
open SE (GlW glT RL R)
variable {W:World}
def seatLaid:List (String×DataW Unit):=[("sidestick/gate.commands",Rows.laid_sidestick_gate_commands),("sidestick/sha.roots",Rows.laid_sidestick_sha_roots)]
theorem c267:Tryz.prog.cellsOf 267=12:=by kernel_rfl
theorem c4:Tryz.prog.cellsOf 4=1:=by kernel_rfl
theorem root_leaf:((List.range 64).all fun i=>leaf Tryz.prog 4 285 i == some 235)=true:=by kernel_rfl
theorem c285:Tryz.prog.cellsOf 285=64:=by kernel_rfl
theorem trod_len {H:Type} {enc:TypeId×Value→H} {P:Program} {base:Nat} {spare:Nat→Bool} {held:Bool} {t e n:Nat} {cs:List Value} {fuel:Nat} {x:DataW H×List MemPlace} (hu:P.underlying t=some (.array n e)) (h:DataW.trod enc P W base spare held fuel t cs=some x):cs.length=P.cellsOf t:=by
 obtain ⟨xs,m,_,_,hlen,_⟩:=DataW.trod_array hu h
 exact hlen
theorem trod_bool_eq {H:Type} {enc:TypeId×Value→H} {P:Program} {base:Nat} {spare:Nat→Bool} {held:Bool} {t:Nat} {cs:List Value} {fuel:Nat} {b:Bool} {ps:List MemPlace} (hu:P.underlying t=some .bool) (h:DataW.trod enc P W base spare held fuel t cs=some (.lit (.bool b),ps)):cs=[.bool b]:=by
 cases fuel with
 | zero=>simp [DataW.trod] at h
 | succ fuel =>
  rw [DataW.trod_step] at h
  unfold DataW.trodStep at h
  rw [hu] at h
  simp only at h
  split at h <;> try (first | (cases h; done) | (rename_i q; cases q; done) | (rename_i e1 e2; cases e1; done))
  simp only [Option.some.injEq,Prod.mk.injEq,DataW.lit.injEq,Lit.bool.injEq] at h
  rw [h.1]
theorem var_obj {name:String} {g:Nat} {cs:Array Value} (h:W.var? Tryz.prog name=some cs) (hg:Tryz.prog.globalNamed name=some g):∃ t fr,W.heap[g]?=some (.cells cs t fr):=by
 unfold World.var? at h
 rw [hg] at h
 simp only [Option.bind_some] at h
 split at h
 ·rename_i c t fr hh
  cases h
  exact ⟨t,fr,hh⟩
 ·cases h
theorem glw_of_laid (h:laidMetH Tryz.prog seatLaid W):GlW W:=by
 rw [MakeChecks.laidMetH_plain _ _ _ (by kernel_rfl)] at h
 obtain ⟨ps,⟨g,t,cs,fuel,p,q,hg,ht,hv,hd,⟨g',t',cs',fuel',p',q',hg',ht',hv',hd',_,_⟩,_⟩,_,_⟩:=h
 have e0:Tryz.prog.globalNamed "sidestick/gate.commands" = some 0:=by kernel_rfl
 have e1:Tryz.prog.globalNamed "sidestick/sha.roots" = some 1:=by kernel_rfl
 obtain rfl:=Option.some.inj (e0.symm.trans hg)
 obtain rfl:=Option.some.inj (e1.symm.trans hg')
 obtain rfl:=Option.some.inj ((show (Tryz.prog.globals[0]?).map (·.type)=some 267 by kernel_rfl).symm.trans ht)
 obtain rfl:=Option.some.inj ((show (Tryz.prog.globals[1]?).map (·.type)=some 285 by kernel_rfl).symm.trans ht')
 intro n l hl
 simp only [glT,cond_eq_ite] at hl
 split at hl
 ·rename_i hn
  have:=SE.nbeq hn
  subst this
  cases hl
  obtain ⟨ty,fr,hh⟩:=var_obj hv e0
  refine ⟨(Array.getElem?_eq_some_iff.1 hh).1,cs,ty,fr,hh,?_⟩
  obtain ⟨xs,m,_,ex,hlen,hl,hel⟩:=DataW.trod_array Tryz.underlying267 hd
  rw [c267] at hlen
  obtain ⟨l⟩:=cs
  match l,hlen with
  | [a0,a1,a2,a3,a4,a5,a6,a7,a8,a9,a10,a11],_ =>
   match xs,hl with
   | [x0,x1,x2,x3,x4,x5,x6,x7,x8,x9,x10,x11],_ =>
    have e3:=(DataW.agg.inj (Prod.mk.inj ex).1)
    simp only [List.map_cons,List.map_nil,List.cons.injEq,and_true] at e3
    have key:∀ i,i<12→∀ (a:Value) (x:DataW Unit×List MemPlace) (b:Bool),[a0,a1,a2,a3,a4,a5,a6,a7,a8,a9,a10,a11][i]?=some a→[x0,x1,x2,x3,x4,x5,x6,x7,x8,x9,x10,x11][i]?=some x→x.1=.lit (.bool b)→a=.bool b:=fun i hi a x b ha hx hb=>by
     have h1:=hel i hi
     rw [hx,c4,Nat.mul_one] at h1
     obtain ⟨x1,x2⟩:=x
     simp only at hb
     subst hb
     have h2:=trod_bool_eq Tryz.underlying4 h1
     have h3:(List.take 1 (List.drop i [a0,a1,a2,a3,a4,a5,a6,a7,a8,a9,a10,a11]))[0]?=some a:=by
      rw [List.getElem?_take,if_pos (by omega),List.getElem?_drop]
      exact ha
     rw [h2] at h3
     simpa using h3.symm
    obtain ⟨f0,f1,f2,f3,f4,f5,f6,f7,f8,f9,f10,f11⟩:=e3
    have k0:=key 0 (by omega) _ _ _ rfl rfl f0.symm
    have k1:=key 1 (by omega) _ _ _ rfl rfl f1.symm
    have k2:=key 2 (by omega) _ _ _ rfl rfl f2.symm
    have k3:=key 3 (by omega) _ _ _ rfl rfl f3.symm
    have k4:=key 4 (by omega) _ _ _ rfl rfl f4.symm
    have k5:=key 5 (by omega) _ _ _ rfl rfl f5.symm
    have k6:=key 6 (by omega) _ _ _ rfl rfl f6.symm
    have k7:=key 7 (by omega) _ _ _ rfl rfl f7.symm
    have k8:=key 8 (by omega) _ _ _ rfl rfl f8.symm
    have k9:=key 9 (by omega) _ _ _ rfl rfl f9.symm
    have k10:=key 10 (by omega) _ _ _ rfl rfl f10.symm
    have k11:=key 11 (by omega) _ _ _ rfl rfl f11.symm
    subst k0 k1 k2 k3 k4 k5 k6 k7 k8 k9 k10 k11
    simp [RL,R]
 ·split at hl
  ·rename_i hn
   have:=SE.nbeq hn
   subst this
   cases hl
   obtain ⟨ty,fr,hh⟩:=var_obj hv' e1
   refine ⟨(Array.getElem?_eq_some_iff.1 hh).1,cs',ty,fr,hh,?_⟩
   have hlen:=trod_len Tryz.underlying285 hd'
   rw [c285] at hlen
   have key:∀ i,i<64→∃ z:Int,cs'.toList[i]?=some (.int .u32 z)∧0≤z∧z≤4294967295:=fun i hi=>by
    have hl:=List.all_eq_true.1 root_leaf i (List.mem_range.2 hi)
    obtain ⟨v,f',x',h1,h2⟩:=leaf_trod 4 285 i 235 _ _ _ (by simpa using hl) hd'
    obtain ⟨z,rfl,hz⟩:=trod_int Tryz.underlying235 h2
    simp only [Lit.wf,Bool.and_eq_true,decide_eq_true_eq] at hz
    exact ⟨z,h1,hz⟩
   have gen:∀ (n:Nat) (l:List Value),l.length=n→(∀ i,i<n→∃ z:Int,l[i]?=some (.int .u32 z)∧0≤z∧z≤4294967295)→RL (fun _=>none) (SE.rep n SE.u32) l:=by
    intro n
    induction n with
    | zero=>intro l h _; cases l with
     | nil=>simp [SE.rep,RL]
     | cons=>simp at h
    | succ n ih =>
     intro l h hk
     cases l with
     | nil=>simp at h
     | cons a l =>
      obtain ⟨z,hz,z1,z2⟩:=hk 0 (by omega)
      simp at hz
      subst hz
      simp only [SE.rep]
      refine SE.RL_cons.2 ⟨?_,ih l (by simpa using h) fun i hi=>by simpa using hk (i+1) (by omega)⟩
      simp only [SE.u32,R,SE.SIok]
      exact ⟨z,⟨z1,z2⟩,rfl⟩
   exact gen 64 _ hlen key
  ·cases hl
end In
end
section
namespace In
open SE (PolA ByteRow isK i64)
variable {H:Type} {enc:TypeId×Value→H} {W:World} {spare:Nat→Bool} {held:Bool}
theorem pol_leaf:((List.range 56).all fun i=>leaf Tryz.prog 6 28 i == some (if isK i then 3 else 23))=true:=by kernel_rfl
theorem pol_types:Tryz.prog.cellTypes Tryz.prog.depth 28=some ((List.range 56).map fun i=>if isK i then 3 else 23):=by kernel_rfl
theorem pol_cells:Tryz.prog.cellsOf 28=56:=by kernel_rfl
theorem pol_row:∃ fs,Tryz.prog.underlying 28=some (.struct fs):=by
 have h:(match Tryz.prog.underlying 28 with | some (.struct _)=>true | _=>false)=true:=by kernel_rfl
 split at h
 ·rename_i fs e; exact ⟨fs,e⟩
 ·cases h
theorem pol_in {base:Nat} {v:Value} {fuel:Nat} {x:DataW H×List MemPlace} (hok:Value.okWide Tryz.prog W .any base 28 v) (h:DataW.trod enc Tryz.prog W 0 spare held fuel 28 v.cells.toList=some x) :
  ∃ ps:Array Value,v=.agg ps∧PolA W ps:=by
 unfold Value.okWide at hok
 obtain ⟨fs,hfs⟩:=pol_row
 rw [hfs] at hok
 obtain ⟨cs,rfl,hsz,ts,ht,_,hty⟩:=hok
 rw [pol_types] at ht
 cases ht
 rw [pol_cells] at hsz
 refine ⟨cs,rfl,hsz,fun i hi hk=>?_,fun i hi=>?_⟩
 ·have hl:=List.all_eq_true.1 pol_leaf i (List.mem_range.2 hi)
  have hkk:isK i=true:=by
   cases hb:isK i with
   | true=>rfl
   | false =>
    obtain ⟨a,b⟩:=SE.isK_no hb
    omega
  rw [hkk] at hl
  obtain ⟨u,f',x',h1,h2⟩:=leaf_trod 6 28 i 3 _ fuel x (by simpa using hl) h
  obtain ⟨z,rfl,hz⟩:=trod_int Tryz.underlying3 h2
  exact ⟨z,by simpa [Value.cells,i64] using h1,wf_i64 hz⟩
 ·have hl:=List.all_eq_true.1 pol_leaf (5+i) (List.mem_range.2 (by omega))
  have hkk:isK (5+i)=false:=by
   match i,hi with
   | 0,_=>rfl
   | 1,_=>rfl
   | 2,_=>rfl
   | 3,_=>rfl
  rw [hkk] at hl
  obtain ⟨u,f',x',h1,h2⟩:=leaf_trod 6 28 (5+i) 23 _ fuel x (by simpa using hl) h
  have h1':cs[5+i]?=some u:=by simpa [Value.cells] using h1
  rcases trod_slice Tryz.underlying23 h2 with rfl | ⟨a,len,cap,rfl,q1,q2,_⟩
  ·exact ⟨none,0,0,h1',by decide,Nat.le_refl _,rfl,fun x hx=>by cases hx⟩
  ·obtain ⟨_,_,hb⟩:=bytes_trod h2
   obtain ⟨t,ht1,ht2⟩:=hty (5+i) _ h1'
   have hlen:((List.range 56).map fun i=>if isK i then 3 else 23).length=56:=by simp
   rw [hlen,Nat.mod_eq_of_lt (by omega)] at ht1
   simp only [List.getElem?_map,List.getElem?_range (show 5+i<56 by omega),Option.map_some,hkk] at ht1
   cases ht1
   unfold Cell.okWide at ht2
   simp only [Bool.false_eq_true,if_false,Tryz.underlying23] at ht2
   unfold Cell.ok at ht2
   simp only [Tryz.underlying23] at ht2
   obtain ⟨hs,vs,e,fr,hg⟩:=has_obj ht2.2.2
   refine ⟨some a,len,cap,h1',?_,q1,⟨hs,vs,e,fr,hg,fun j hj=>?_⟩,fun x hx=>by cases hx; exact (Array.getElem?_eq_some_iff.1 hg).1⟩
   ·have:maxLen=9223372036854775807:=rfl
    simp only [Int.ofNat_eq_natCast]
    omega
   ·obtain ⟨z,z1,z2,z3⟩:=hb j hj
    rw [add_at hs,SE.cell_at hg] at z3
    exact ⟨z,z1,z2,z3⟩
end In
end
end Go.Proofs.YtdgejnakakjgfaaGreatDoor
