/- TopThere. What comes in: the package's variables. What comes in: a policy. -/
import Derived.Test.YtdgejnakakjgfaaGreatDoorRows
import Derived.Test.YtdgejnakakjgfaaGreatDoorR38
import Derived.Test.YtdgejnakakjgfaaGreatDoorT00
import Derived.Test.YtdgejnakakjgfaaGreatDoorR10
import Derived.Test.YtdgejnakakjgfaaGreatDoorR36
import Derived.Test.YtdgejnakakjgfaaGreatDoorR18
import Derived.LoopNIn
import Derived.BigQuiet
import Derived.OpenShut
import Derived.MakeChecks
set_option linter.unusedVariables false
set_option linter.unusedSimpArgs false
set_option maxRecDepth 100000
namespace Go.Proofs.YtdgejnakakjgfaaGreatDoor
section
namespace SE
open Go.RowKit Mc In
attribute [local go_sem] Oper.semAt_some
set_option maxHeartbeats 0
theorem there_any {w:World} (hw:GlW w) {ps:Array Value} (hps:PolA w ps) {b:Option Addr} {n c:Nat} (he:EvsIn w b n c):Calls Tryz.prog 5 #[.agg ps,.slice b n c] w fun e w'=>e=.returned (.bool true)∧Below w.heap.size w w':=by
 refine (callsIn_wide (n:=3)).1 (callsIn_of_wp Tryz.func5 rfl trivial ?_ rfl)
 simp only [Tryz.ntmps5,List.size_toArray,List.length_cons,List.length_nil,Nat.reduceAdd,Nat.reduceSub,Array.replicate_succ,Array.replicate_zero,List.push_toArray,List.append_toArray,List.nil_append,List.cons_append]
 obtain ⟨d28,hd28,hr28⟩:=pol_un
 gi_wp2
 generalize hwA:World.alloc w _=wA
 have hbA:Below w.heap.size w wA:=by rw [← hwA]; exact (Below.refl _ _).alloc (Nat.le_refl _) _
 have hboxA:wA.heap[w.heap.size]?=some (.cells ps 28 (0,0)):=by rw [← hwA]; exact heap_alloc_new w _
 rename_i K1 hK1 K2 hK2
 refine ⟨trivial,?_⟩
 refine (callsIn_wide.2 (shown_any (hw.belowW hbA))).mono ?_
 rintro e w1 ⟨rfl,hb1⟩
 have hA1:=Below.to hbA hb1
 have hw1:=hw.belowW hA1
 have hlA:w.heap.size<wA.heap.size:=(Array.getElem?_eq_some_iff.1 hboxA).1
 have hbox1:w1.heap[w.heap.size]?=some (.cells ps 28 (0,0)):=(hb1.block _ hlA).trans hboxA
 refine hK2 _ _ ?_
 gi_wp2_with (refine in_load (b:=w.heap.size) (off:=0) (n:=56) (d:=d28) rfl rfl rfl hbox1 hd28 hr28 pol_info (by have:=hps.len; omega) ?_; rw [take_all hps.len])
 rename_i K3 hK3
 refine ⟨trivial,?_⟩
 refine (callsIn_wide.2 (made_any (w00:=w) hw hA1 hw1 (hps.below hA1))).mono ?_
 rintro e w2 ⟨M,pc,MO,od,rfl,hb2,hw2,hpc,hM,hod,hfar⟩
 refine hK3 _ _ ?_
 have hpl:pc.size=56:=by simpa using hpc.len
 have hone:=polR_one hpc
 have hb02:=Below.to hA1 hb2
 gi_wp2_with (first
  | (refine in_store (b:=w2.heap.size) (off:=0) (xs:=pc) (v:=.agg pc) rfl rfl rfl rfl rfl hone (by rw [hpl]; exact pol_info) (heap_alloc_new w2 _) (by rw [hpl]; simp) fun w3 hw3=>?_; simp only [Act.put,List.setIfInBounds_toArray,List.set_cons_succ,List.set_cons_zero]; obtain ⟨hb3,hpol3,hz3⟩:=set_pol hw3 rfl hpl; clear hw3)
  | fail)
 rename_i K4 hK4
 refine ⟨trivial,?_⟩
 generalize hwF:World.alloc w3 _=wF
 have hb3F:Below w3.heap.size w3 wF:=by rw [← hwF]; exact (Below.refl _ _).alloc (Nat.le_refl _) _
 have hzF:wF.heap.size=w2.heap.size+2:=by rw [← hwF,alloc_size]; omega
 have hwbF:wF.heap[w2.heap.size+1]?=some (.cells (bv5 fun _=>false) 53 (0,0)):=by
  have:=heap_alloc_new w3 (Obj.cells (bv5 fun _=>false) 53)
  rw [hz3] at this
  rw [← hwF]
  exact this
 have hb2F:=Below.to hb3 hb3F
 have hb0F:=Below.to hb02 hb2F
 refine (callsIn_wide.2 (few_any (EvsIn.below he hb0F))).mono ?_
 rintro e w4 ⟨v,es,rfl,hlen,hF⟩
 have hz2:=hb02.size
 have hmo:0≤mostOf pc:=Int.le_trans (hpc.fit.most 1 (by omega)).1 (Int.le_max_left _ _)
 have hrM:¬ MO w2.heap.size:=fun h=>by have:=hM.lt _ h; omega
 have hwM:¬ MO (w2.heap.size+1):=fun h=>by have:=hM.lt _ h; omega
 have hM3:MachD pc w M MO wF od:=hM.keep ⟨hb2F.size,fun n hn=>hb2F.block n (hM.lt n hn),hb2F.os,hb2F.tape,hb2F.output⟩ (hw.belowW hb0F)
 have hL:=LawL.start hw hM3 hb0F hz2 hrM ((hb3F.block _ (by omega)).trans hpol3) hF
 have hB:OwnB w w4 w2.heap.size wF.heap.size w4.heap.size MO (w2.heap.size+1) (bv5 fun _=>false) 53:=⟨(hF.bel.block _ (by omega)).trans hwbF,by omega,by omega,.inl (by omega),hwM⟩
 obtain ⟨_,hfw⟩:=FlagsOf.begin hod
 obtain ⟨A,c4,rfl,hc1,hc2,hA⟩:=own_form hF.own
 obtain ⟨d48,hd48,hr48⟩:=ev_un
 clear hF hwbF hone hpol3 hb3F hb2F hM3 hM
 refine hK4 _ _ ?_
 gi_wp2
 gi_loopw [10] (fun i wr=>∃ (k:Nat) (MO:Foot) (od:Option Num) (f:Nat→Bool),k≤es.length∧i=.int .i64 k∧LawL pc w M w2.heap.size wF.heap.size w4.heap.size (.slice A es.length c4) es MO od wr∧OwnB w wr w2.heap.size wF.heap.size w4.heap.size MO (w2.heap.size+1) (bv5 f) 53∧FlagsOf f (onOf od)) (fun i _=>es.length - (intOf i).toNat)
 case atStart=>exact ⟨0,MO,od,_,Nat.zero_le _,rfl,hL,hB,hfw⟩
 case round =>
  obtain ⟨k,MO5,od5,f,hk,rfl,hL5,hB5,hf5⟩:=hrel
  by_cases hlt:k<es.length
  ·obtain ⟨g,rfl⟩:=hA (by omega)
   gi_wp2
   rename_i K5 hK5
   refine ⟨trivial,?_⟩
   refine (callsIn_wide.2 (hL5.site hw)).mono ?_
   rintro e wa ⟨ws,rfl,hLa,hFa,hSa⟩
   have hBa:=hB5.frm (fun n h=>h) hFa
   have hws:=hSa.size
   obtain ⟨qw,hQa⟩:=hSa.q
   refine hK5 _ _ ?_
   gi_wp2_with (first
    | (refine in_store (b:=wa.heap.size) (off:=0) (xs:=ws) (v:=.agg ws) rfl rfl rfl rfl rfl hSa.one (by rw [hws]; exact site_info) (heap_alloc_new wa _) (by rw [hws]; decide) fun wb hwb=>?_; simp only [Act.put,List.setIfInBounds_toArray,List.set_cons_succ,List.set_cons_zero]; obtain ⟨hLb,hBw,hbab⟩:=LawL.box hw hLa hwb (by rw [hws]; decide); clear hwb; obtain ⟨⟨zk,zs,zB,zn,zc,zv,z1,z2,z3,z4,zg,zb⟩,he5,hem,hat⟩:=hLb.at_ hlt)
    | (refine in_loadC (b:=g) (off:=k*10) (vs:=[.int .i64 zk,.int .i64 zs,.slice zB zn zc,.bool zv,.int .i64 z1,.int .i64 z2,.int .i64 z3,.int .i64 z4,.bool zg,.bool zb]) (d:=d48) rfl rfl rfl hat hd48 hr48 ev_size ?_)
    | fail)
   have hBb:=hBa.more hbab
   have hstep:=hLb.step hmo hw hem
   rename_i K7 hK7
   refine ⟨trivial,?_⟩
   refine (callsIn_wide.2 hstep).mono ?_
   rintro e w5 ⟨t,rs,od6,MO6,rfl,hL6,hs6,hF6,hT6,hrl6,hSt6,hno6⟩
   refine hK7 _ _ ?_
   obtain ⟨cs,v12,rb,rl,rc,rfl,hcs,hone6,hact,hc12,hc13,hrl,hrd6,hsrc6⟩:=hT6.ex
   have hB6:=hBb.frm hs6 hF6
   have hBw6:=hBw.frm hs6 hF6
   have hR6:Recs w5 MO6 rb rs:=⟨by rw [← hrl]; exact hrd6,fun _ x hx=>hno6 cs x _ _ rfl (by rw [hc13,hx])⟩
   gi_wp2_with (first
    | (refine in_store (b:=w5.heap.size) (off:=0) (xs:=cs) (v:=.agg cs) rfl rfl rfl rfl rfl hone6 (by rw [hcs]; exact told_info) (heap_alloc_new w5 _) (by rw [hcs]; decide) fun w6 hw6=>?_; simp only [Act.put,List.setIfInBounds_toArray,List.set_cons_succ,List.set_cons_zero])
    | fail)
   obtain ⟨hL7,hBt,hb56⟩:=LawL.box hw hL6 hw6 (by rw [hcs]; decide)
   have hB7:=hB6.more hb56
   have hBw7:=hBw6.more hb56
   have hR7:=hR6.more hb56
   clear hw6
   rename_i K6 hK6
   refine ⟨trivial,?_⟩
   refine (callsIn_wide.2 (hL7.site hw)).mono ?_
   rintro e w7 ⟨ss,rfl,hL8,hF8,hS8⟩
   have hB8:=hB7.frm (fun n h=>h) hF8
   have hBt8:=hBt.frm (fun n h=>h) hF8
   have hBw8:=hBw7.frm (fun n h=>h) hF8
   have hR8:=hR7.frm (fun n h=>h) hF8
   have hss:=hS8.size
   refine hK6 _ _ ?_
   gi_wp2_with (first
    | (refine in_store (b:=w7.heap.size) (off:=0) (xs:=ss) (v:=.agg ss) rfl rfl rfl rfl rfl hS8.one (by rw [hss]; exact site_info) (heap_alloc_new w7 _) (by rw [hss]; decide) fun w8 hw8=>?_; simp only [Act.put,List.setIfInBounds_toArray,List.set_cons_succ,List.set_cons_zero])
    | fail)
   obtain ⟨hL9,hBs,hb78⟩:=LawL.box hw hL8 hw8 (by rw [hss]; decide)
   have hB9:=hB8.more hb78
   have hBt9:=hBt8.more hb78
   have hBw9:=hBw8.more hb78
   have hR9:=hR8.more hb78
   have hlt8:=hL8.lt
   generalize hMO8:grow MO6 w6 w7=MO8 at *
   obtain ⟨q,hQ8⟩:=hS8.q
   have hS9:SiteQ pc MO8 w8 ss q od6:=hQ8.keep hb78.size fun n hn=>hb78.block n (hlt8 n hn)
   clear hw8
   have hI9:RecI pc w M w2.heap.size wF.heap.size w4.heap.size (.slice (some ⟨g,0,none⟩) es.length c4) es MO8 od6 (w2.heap.size+1) w5.heap.size w7.heap.size cs ss q rb rs f w8 :=
    ⟨hL9,hB9,hBt9,hBs,hR9,hS9,fun e=>by have:=hB6.lt; omega,fun e=>by have:=hB8.lt; omega⟩
   have x1:wa.heap.size≠w2.heap.size+1:=by have:=hBa.lt; omega
   have x2:wa.heap.size<w8.heap.size:=hBw9.lt
   have x3:w2.heap.size+1<w8.heap.size:=hB9.lt
   have x4:w5.heap.size<w8.heap.size:=hBt9.lt
   have x5:w7.heap.size<w8.heap.size:=hBs.lt
   clear hL9 hB9 hBt9 hBs hR9 hS9 hL8 hB8 hBt8 hR8 hS8 hQ8 hL7 hB7 hBt hR7 hL6 hB6 hR6 hrd6 hT6 hstep hact hone6 hL hno6 hLa hBa hSa hBw hBb hBw6 hBw7 hBw8
   obtain ⟨d60,hd60,hr60⟩:=rec_un
   have hI9':=hI9.more hw (below_alloc w8 (.cells (bv5 fun _=>false) 53))
   have hBw9':=hBw9.more (below_alloc w8 (.cells (bv5 fun _=>false) 53))
   have hBe9:OwnB w (w8.alloc (.cells (bv5 fun _=>false) 53)) w2.heap.size wF.heap.size w4.heap.size MO8 w8.heap.size (bv5 fun _=>false) 53:=hI9.L.new
   obtain ⟨be,hbe⟩:∃ be,be=w8.heap.size:=⟨_,rfl⟩
   rw [← hbe] at hBe9
   have y1:be≠w2.heap.size+1:=by omega
   have y2:w5.heap.size≠be:=by omega
   have y3:w7.heap.size≠be:=by omega
   have y4:wa.heap.size≠be:=by omega
   gi_wp2
   rw [← hbe]
   clear hbe
   gi_loopw [15] (fun i wr=>∃ (m:Nat) (f' fe:Nat→Bool),m≤rs.length∧i=.int .i64 m∧RecI pc w M w2.heap.size wF.heap.size w4.heap.size (.slice (some ⟨g,0,none⟩) es.length c4) es MO8 od6 (w2.heap.size+1) w5.heap.size w7.heap.size cs ss q rb rs f' wr∧OwnB w wr w2.heap.size wF.heap.size w4.heap.size MO8 be (bv5 fe) 53∧OwnB w wr w2.heap.size wF.heap.size w4.heap.size MO8 wa.heap.size ws 55∧FlagsOf f' (foldO od5 (rs.take m)).on∧FlagsOf fe (foldO od5 (rs.take m)).en) (fun i _=>rs.length - (intOf i).toNat)
   case atStart=>exact ⟨0,f,fun _=>false,Nat.zero_le _,rfl,hI9',hBe9,hBw9',hf5,FlagsOf.zero⟩
   case round =>
    clear hI9' hBe9 hBw9' hI9 hBw9
    obtain ⟨m,f',fe,hm,rfl,hI,hBe,hBw,hff,hfe⟩:=hrel
    subst hrl
    have t13:=hI.T.cell hc13
    by_cases hml:m<rs.length
    ·obtain ⟨g2,off2,qr,rfl,hg2,hnm2,hq,hqm,hat2⟩:=hI.R.at_ hml
     obtain ⟨qk,qs,qq,qe,qc,qh⟩:=qr
     have hsrc:0≤qs∧qs≤4:=hsrc6 _ hqm
     have hpW:∀ o,(wr.alloc o).heap[w2.heap.size+1]?=some (.cells (bv5 f') 53 (0,0)):=fun o=>(hI.W.more (below_alloc wr o)).hp
     have hpE:∀ o,(wr.alloc o).heap[be]?=some (.cells (bv5 fe) 53 (0,0)):=fun o=>(hBe.more (below_alloc wr o)).hp
     have hk5:qk=3∨qk=4∨qk=5∨(qk≠3∧qk≠4∧qk≠5):=by omega
     obtain ⟨hq0,hq4⟩:=hsrc
     have hz5:qs.toNat<5:=by omega
     have hneb:wr.heap.size≠w2.heap.size+1:=by have:=hI.W.lt; omega
     have hnee:wr.heap.size≠be:=by have:=hBe.lt; omega
     have hfl:=flags_on hff hfe hq hq0
     rcases hk5 with rfl | rfl | rfl | ⟨n3,n4,n5⟩
     ·gi_wp2_with (first
       | (refine in_loadC (b:=g2) (off:=off2+m*6) (vs:=[.int .i64 3,.int .i64 qs,.int .i64 qq,.int .i64 qe,.int .i64 qc,.int .i64 qh]) (d:=d60) rfl rfl rfl (fun j u hu=>by rw [Nat.add_assoc]; exact hat2 j u hu) hd60 hr60 rec_size ?_)
       | (refine in_store (b:=be) (off:=qs.toNat) (xs:=#[.bool true]) (v:=.bool true) rfl rfl rfl rfl rfl one_b flag_info (hpE _) (by show qs.toNat+1≤5; omega) fun wq hwq=>?_; simp only [Act.put,List.setIfInBounds_toArray,List.set_cons_succ,List.set_cons_zero]; have q0:wq.cell? ⟨wr.heap.size,0,none⟩=some (.int .i64 3):=(SE.cell_at ((hwq.same _ hnee).trans (heap_alloc_new wr _))).trans rfl; have q1:wq.cell? ⟨wr.heap.size,1,none⟩=some (.int .i64 qs):=(SE.cell_at ((hwq.same _ hnee).trans (heap_alloc_new wr _))).trans rfl)
       | (refine in_store (b:=w2.heap.size+1) (off:=qs.toNat) (xs:=#[.bool true]) (v:=.bool true) rfl rfl rfl rfl rfl one_b flag_info ((hwq.same _ (Ne.symm y1)).trans (hpW _)) (by show qs.toNat+1≤5; omega) fun wp hwp=>?_; simp only [Act.put,List.setIfInBounds_toArray,List.set_cons_succ,List.set_cons_zero]; have q2:wp.cell? ⟨wr.heap.size,0,none⟩=some (.int .i64 3):=(SE.cell_at ((hwp.same _ hneb).trans ((hwq.same _ hnee).trans (heap_alloc_new wr _)))).trans rfl)
       | fail)
      rw [bv5_put fe hz5] at hwq
      rw [bv5_put f' hz5] at hwp
      have hBe2:=(hBe.more (below_alloc wr _)).set hwq
      have hBw2:=(hBw.more (below_alloc wr _)).other hwq y4
      have hI2:=(hI.more hw (below_alloc wr _)).side hw (hBe.more (below_alloc wr _)) hwq y1 y2 y3
      exact ⟨⟨m+1,updB f' qs.toNat true,updB fe qs.toNat true,by omega,rfl,hI2.put hw hwp,hBe2.other hwp y1,hBw2.other hwp x1,(hfl.1 rfl).1,(hfl.1 rfl).2⟩,by simp [intOf]; omega⟩
     ·gi_wp2_with (first
       | (refine in_loadC (b:=g2) (off:=off2+m*6) (vs:=[.int .i64 4,.int .i64 qs,.int .i64 qq,.int .i64 qe,.int .i64 qc,.int .i64 qh]) (d:=d60) rfl rfl rfl (fun j u hu=>by rw [Nat.add_assoc]; exact hat2 j u hu) hd60 hr60 rec_size ?_)
       | (refine in_store (b:=w2.heap.size+1) (off:=qs.toNat) (xs:=#[.bool false]) (v:=.bool false) rfl rfl rfl rfl rfl one_b flag_info (hpW _) (by show qs.toNat+1≤5; omega) fun wq hwq=>?_; simp only [Act.put,List.setIfInBounds_toArray,List.set_cons_succ,List.set_cons_zero])
       | fail)
      have hI2:=hI.flag hw hz5 hwq
      rw [bv5_put f' hz5] at hwq
      exact ⟨⟨m+1,updB f' qs.toNat false,fe,by omega,rfl,hI2,(hBe.more (below_alloc wr _)).other hwq y1,(hBw.more (below_alloc wr _)).other hwq x1,(hfl.2.1 (.inl rfl)).1,(hfl.2.1 (.inl rfl)).2⟩,by simp [intOf]; omega⟩
     ·gi_wp2_with (first
       | (refine in_loadC (b:=g2) (off:=off2+m*6) (vs:=[.int .i64 5,.int .i64 qs,.int .i64 qq,.int .i64 qe,.int .i64 qc,.int .i64 qh]) (d:=d60) rfl rfl rfl (fun j u hu=>by rw [Nat.add_assoc]; exact hat2 j u hu) hd60 hr60 rec_size ?_)
       | (refine in_store (b:=w2.heap.size+1) (off:=qs.toNat) (xs:=#[.bool false]) (v:=.bool false) rfl rfl rfl rfl rfl one_b flag_info (hpW _) (by show qs.toNat+1≤5; omega) fun wq hwq=>?_; simp only [Act.put,List.setIfInBounds_toArray,List.set_cons_succ,List.set_cons_zero])
       | fail)
      have hI2:=hI.flag hw hz5 hwq
      rw [bv5_put f' hz5] at hwq
      exact ⟨⟨m+1,updB f' qs.toNat false,fe,by omega,rfl,hI2,(hBe.more (below_alloc wr _)).other hwq y1,(hBw.more (below_alloc wr _)).other hwq x1,(hfl.2.1 (.inr rfl)).1,(hfl.2.1 (.inr rfl)).2⟩,by simp [intOf]; omega⟩
     ·have e3:(qk == 3)=false:=by simpa using n3
      have e4:(qk == 4)=false:=by simpa using n4
      have e5:(qk == 5)=false:=by simpa using n5
      gi_wp2_with (first
       | (refine in_loadC (b:=g2) (off:=off2+m*6) (vs:=[.int .i64 qk,.int .i64 qs,.int .i64 qq,.int .i64 qe,.int .i64 qc,.int .i64 qh]) (d:=d60) rfl rfl rfl (fun j u hu=>by rw [Nat.add_assoc]; exact hat2 j u hu) hd60 hr60 rec_size ?_)
       | fail)
      exact ⟨⟨m+1,f',fe,by omega,rfl,hI.more hw (below_alloc wr _),hBe.more (below_alloc wr _),hBw.more (below_alloc wr _),(hfl.2.2 n3 n4 n5).1,(hfl.2.2 n3 n4 n5).2⟩,by simp [intOf]; omega⟩
    ·obtain rfl:m=rs.length:=by omega
     rw [List.take_length] at hff hfe
     obtain ⟨hton,hten,htro⟩:=hSt6.there
     gi_wp2
     gi_loopw [17] (fun i wr=>∃ s:Nat,1≤s∧s≤4∧i=.int .i64 s∧RecI pc w M w2.heap.size wF.heap.size w4.heap.size (.slice (some ⟨g,0,none⟩) es.length c4) es MO8 od6 (w2.heap.size+1) w5.heap.size w7.heap.size cs ss q rb rs f' wr∧OwnB w wr w2.heap.size wF.heap.size w4.heap.size MO8 be (bv5 fe) 53∧OwnB w wr w2.heap.size wF.heap.size w4.heap.size MO8 wa.heap.size ws 55) (fun i _=>4 - (intOf i).toNat)
     case atStart=>exact ⟨1,by omega,by omega,rfl,hI,hBe,hBw⟩
     case round =>
      clear hI hBe hBw t13
      obtain ⟨s,hs1,hs4,rfl,hI,hBe,hBw⟩:=hrel
      by_cases hs3:s≤3
      ·obtain ⟨n20,r,n25,hr⟩:=hI.D.link hs1 hs3
       obtain ⟨_,rw',w25,hrw⟩:=hQa.link hs1 hs3
       have hf1:=hff s hs1 hs3
       rw [hton] at hf1
       have hf2:=hfe s hs1 hs3
       have hmx:Tryz.prog.follows .mixedOrders=true:=by kernel_rfl
       have cells:∀ wX,RecI pc w M w2.heap.size wF.heap.size w4.heap.size (.slice (some ⟨g,0,none⟩) es.length c4) es MO8 od6 (w2.heap.size+1) w5.heap.size w7.heap.size cs ss q rb rs f' wX→OwnB w wX w2.heap.size wF.heap.size w4.heap.size MO8 be (bv5 fe) 53→OwnB w wX w2.heap.size wF.heap.size w4.heap.size MO8 wa.heap.size ws 55 →
         wX.cell? ⟨w7.heap.size,20+s,none⟩=some (.bool (decide (get3 (onOf od6) s≠0)))∧wX.cell? ⟨w7.heap.size,25+s,none⟩=some (.int .i64 r)∧wX.cell? ⟨wa.heap.size,25+s,none⟩=some (.int .i64 rw') ∧
          wX.cell? ⟨w2.heap.size+1,s,none⟩=some (.bool (f' s))∧wX.cell? ⟨be,s,none⟩=some (.bool (fe s))∧wX.cell? ⟨g,k*10,none⟩=some (.int .i64 zk)∧wX.cell? ⟨g,k*10+1,none⟩=some (.int .i64 zs):=fun wX hI hBe hBw=>by
        obtain ⟨e',he',hem',hat'⟩:=hI.L.at_ hlt
        rw [he5] at he'
        cases he'
        exact ⟨hI.S.cell n20,hI.S.cell n25,hBw.cell w25,hI.W.cell (bv5_get f' (show s<5 by omega)),hBe.cell (bv5_get fe (show s<5 by omega)),hat' 0 _ rfl,hat' 1 _ rfl⟩
       have hs5:(s:Int)<5:=by omega
       obtain ⟨i1,ha1,hb1,hs1i⟩:=flags_arr
       obtain ⟨i2,ha2,hb2,hs2i⟩:=roles_arr
       have hpol:∀ x,Below wr.heap.size wr x→x.heap[w2.heap.size]?=some (.cells pc 28 (0,0)):=fun x hx=>(hI.more hw hx).L.pol
       have call:∀ x,Below wr.heap.size wr x→_:=fun x hx=>cells x (hI.more hw hx) (hBe.more hx) (hBw.more hx)
       have c25:=fun x hx=>(call x hx).2.1
       by_cases hon:get3 (onOf od6) s=0
       ·have e1:decide (get3 (onOf od6) s≠0)=false:=by simp [hon]
        rw [e1] at hf1
        have c20:∀ x,Below wr.heap.size wr x→x.cell? ⟨w7.heap.size,20+s,none⟩=some (.bool false):=fun x hx=>by rw [← e1]; exact (call x hx).1
        gi_wp2
        refine wpIn_wide.2 (region_c (fun x=>Below wr.heap.size wr x) hmx (by kernel_rfl) ⟨rfl,rfl,rfl,Nat.le_refl _,fun _ _=>rfl⟩ ?_)
        refine q_val (v:=.int .i64 s) (by kernel_rfl) (fun w hC=>by kernel_rfl) ?_; simp only [Act.put,List.setIfInBounds_toArray,List.set_cons_succ,List.set_cons_zero]
        refine q_val (v:=.pointer (some ⟨w7.heap.size,20,none⟩)) (by kernel_rfl) (fun w hC=>by kernel_rfl) ?_; simp only [Act.put,List.setIfInBounds_toArray,List.set_cons_succ,List.set_cons_zero]
        refine q_val (v:=.pointer (some ⟨w7.heap.size,20+s,none⟩)) (by kernel_rfl) (fun w hC=>run_idx1 (b:=w7.heap.size) (off:=20) (m:=s) rfl (by kernel_rfl) (by kernel_rfl) ha1 hb1 hs1i (by omega)) ?_; simp only [Act.put,List.setIfInBounds_toArray,List.set_cons_succ,List.set_cons_zero]
        refine q_val (v:=.bool false) (by kernel_rfl) (fun w hC=>run_load1 (b:=w7.heap.size) (off:=20+s) rfl (by kernel_rfl) (c20 w hC) Tryz.underlying4 (.inl rfl)) ?_; simp only [Act.put,List.setIfInBounds_toArray,List.set_cons_succ,List.set_cons_zero]
        refine q_val (v:=.bool true) (by kernel_rfl) (fun w hC=>by kernel_rfl) ?_; simp only [Act.put,List.setIfInBounds_toArray,List.set_cons_succ,List.set_cons_zero]
        refine q_val (v:=.bool true) (by kernel_rfl) (fun w hC=>by kernel_rfl) ?_; simp only [Act.put,List.setIfInBounds_toArray,List.set_cons_succ,List.set_cons_zero]
        go_big_quiet_skip
        go_big_quiet_skip
        go_big_quiet_skip
        go_big_quiet_skip
        go_big_quiet_skip
        go_big_quiet_skip
        go_big_quiet_skip
        refine q_val (v:=.bool true) (by kernel_rfl) (fun w hC=>by kernel_rfl) ?_; simp only [Act.put,List.setIfInBounds_toArray,List.set_cons_succ,List.set_cons_zero]
        refine q_val (v:=.bool true) (by kernel_rfl) (fun w hC=>by kernel_rfl) ?_; simp only [Act.put,List.setIfInBounds_toArray,List.set_cons_succ,List.set_cons_zero]
        refine wpQuiet_nil ?_
        intro wE hE
        rename_i KX hKX
        refine hKX _ _ ?_
        obtain ⟨f1,f2,f3,f4,f5,f6,f7⟩:=cells wE (hI.more hw hE) (hBe.more hE) (hBw.more hE)
        rw [e1] at f1
        rw [hf1] at f4
        cases hen:fe s
        ·rw [hen] at f5
         clear hf2 call c20 c25 hpol cells hff hfe hten htro hr hrw
         gi_wp2
         refine wpIn_wide.2 ?_
         go_quiet (fail)
         rename_i KY hKY
         refine hKY _ _ ?_
         gi_wp2
         have hE2:=Below.to hE (drewN_below wE nq)
         exact ⟨⟨s+1,by omega,by omega,rfl,hI.more hw hE2,hBe.more hE2,hBw.more hE2⟩,by simp [intOf]; omega⟩
        ·rw [hen] at f5
         have hz:=hten s (by omega) (by omega) (by rw [hen] at hf2; simpa using hf2)
         obtain ⟨rfl,rfl⟩:=hz
         clear hf2 call c20 c25 hpol cells hff hfe hten htro hr hrw
         gi_wp2
         refine wpIn_wide.2 ?_
         go_quiet (fail)
         rename_i KY hKY
         refine hKY _ _ ?_
         gi_wp2
         have hE2:=Below.to hE (drewN_below wE nq)
         exact ⟨⟨s+1,by omega,by omega,rfl,hI.more hw hE2,hBe.more hE2,hBw.more hE2⟩,by simp [intOf]; omega⟩
       ·have e1:decide (get3 (onOf od6) s≠0)=true:=by simp [hon]
        rw [e1] at hf1
        have c20:∀ x,Below wr.heap.size wr x→x.cell? ⟨w7.heap.size,20+s,none⟩=some (.bool true):=fun x hx=>by rw [← e1]; exact (call x hx).1
        have htk:=(hr hon).2
        gi_wp2
        refine wpIn_wide.2 (region_c (fun x=>Below wr.heap.size wr x) hmx (by kernel_rfl) ⟨rfl,rfl,rfl,Nat.le_refl _,fun _ _=>rfl⟩ ?_)
        refine q_val (v:=.int .i64 s) (by kernel_rfl) (fun w hC=>by kernel_rfl) ?_; simp only [Act.put,List.setIfInBounds_toArray,List.set_cons_succ,List.set_cons_zero]
        refine q_val (v:=.pointer (some ⟨w7.heap.size,20,none⟩)) (by kernel_rfl) (fun w hC=>by kernel_rfl) ?_; simp only [Act.put,List.setIfInBounds_toArray,List.set_cons_succ,List.set_cons_zero]
        refine q_val (v:=.pointer (some ⟨w7.heap.size,20+s,none⟩)) (by kernel_rfl) (fun w hC=>run_idx1 (b:=w7.heap.size) (off:=20) (m:=s) rfl (by kernel_rfl) (by kernel_rfl) ha1 hb1 hs1i (by omega)) ?_; simp only [Act.put,List.setIfInBounds_toArray,List.set_cons_succ,List.set_cons_zero]
        refine q_val (v:=.bool true) (by kernel_rfl) (fun w hC=>run_load1 (b:=w7.heap.size) (off:=20+s) rfl (by kernel_rfl) (c20 w hC) Tryz.underlying4 (.inl rfl)) ?_; simp only [Act.put,List.setIfInBounds_toArray,List.set_cons_succ,List.set_cons_zero]
        refine q_val (v:=.bool false) (by kernel_rfl) (fun w hC=>by kernel_rfl) ?_; simp only [Act.put,List.setIfInBounds_toArray,List.set_cons_succ,List.set_cons_zero]
        refine q_val (v:=.bool false) (by kernel_rfl) (fun w hC=>by kernel_rfl) ?_; simp only [Act.put,List.setIfInBounds_toArray,List.set_cons_succ,List.set_cons_zero]
        refine q_val (v:=.agg pc) (by kernel_rfl) (fun w hC=>(run_rowload (b:=w2.heap.size) (off:=0) (n:=56) (d:=d28) rfl (by kernel_rfl) (hpol w hC) hd28 hr28 pol_info (by omega)).trans (by rw [take_all hpl])) ?_; simp only [Act.put,List.setIfInBounds_toArray,List.set_cons_succ,List.set_cons_zero]
        refine q_val (v:=.int .i64 s) (by kernel_rfl) (fun w hC=>by kernel_rfl) ?_; simp only [Act.put,List.setIfInBounds_toArray,List.set_cons_succ,List.set_cons_zero]
        refine q_val (v:=.int .i64 s) (by kernel_rfl) (fun w hC=>by kernel_rfl) ?_; simp only [Act.put,List.setIfInBounds_toArray,List.set_cons_succ,List.set_cons_zero]
        refine q_val (v:=.pointer (some ⟨w7.heap.size,25,none⟩)) (by kernel_rfl) (fun w hC=>by kernel_rfl) ?_; simp only [Act.put,List.setIfInBounds_toArray,List.set_cons_succ,List.set_cons_zero]
        refine q_val (v:=.pointer (some ⟨w7.heap.size,25+s,none⟩)) (by kernel_rfl) (fun w hC=>run_idx1 (b:=w7.heap.size) (off:=25) (m:=s) rfl (by kernel_rfl) (by kernel_rfl) ha2 hb2 hs2i (by omega)) ?_; simp only [Act.put,List.setIfInBounds_toArray,List.set_cons_succ,List.set_cons_zero]
        refine q_val (v:=.int .i64 r) (by kernel_rfl) (fun w hC=>run_load1 (b:=w7.heap.size) (off:=25+s) rfl (by kernel_rfl) (c25 w hC) Tryz.underlying3 (.inr ⟨_,rfl⟩)) ?_; simp only [Act.put,List.setIfInBounds_toArray,List.set_cons_succ,List.set_cons_zero]
        refine q_call (v:=.bool true) (f:=13) (args:=#[.agg pc,.int .i64 s,.int .i64 r]) (by kernel_rfl) (fun w hC=>run_callf rfl Tryz.func13 name13 body13 (by kernel_rfl)) (fun w hC=>(rtakes_any pc s r w hpc.fit.ok hpc.fit.sets).mono fun e w' h=>⟨by rw [h.1,htk],Below.to hC h.2⟩) ?_; simp only [Act.put,List.setIfInBounds_toArray,List.set_cons_succ,List.set_cons_zero]
        refine q_val (v:=.bool true) (by kernel_rfl) (fun w hC=>by kernel_rfl) ?_; simp only [Act.put,List.setIfInBounds_toArray,List.set_cons_succ,List.set_cons_zero]
        refine q_val (v:=.bool true) (by kernel_rfl) (fun w hC=>by kernel_rfl) ?_; simp only [Act.put,List.setIfInBounds_toArray,List.set_cons_succ,List.set_cons_zero]
        refine wpQuiet_nil ?_
        intro wE hE
        rename_i KX hKX
        refine hKX _ _ ?_
        obtain ⟨f1,f2,f3,f4,f5,f6,f7⟩:=cells wE (hI.more hw hE) (hBe.more hE) (hBw.more hE)
        rw [e1] at f1
        rw [hf1] at f4
        cases hen:fe s
        ·rw [hen] at f5
         have h0:get3 (foldO od5 rs).en s=0:=by
          rw [hen] at hf2
          simpa using hf2
         obtain ⟨hro,hon5⟩:=htro s (by omega) (by omega) hon h0
         obtain rfl:rw'=r:=by rw [(hrw hon5).1,(hr hon).1,hro]
         clear hf2 call c20 c25 hpol cells hff hfe hten htro hr hrw
         gi_wp2
         refine wpIn_wide.2 ?_
         go_quiet (fail)
         rename_i KY hKY
         refine hKY _ _ ?_
         gi_wp2
         have hE2:=Below.to hE (drewN_below wE nq)
         exact ⟨⟨s+1,by omega,by omega,rfl,hI.more hw hE2,hBe.more hE2,hBw.more hE2⟩,by simp [intOf]; omega⟩
        ·rw [hen] at f5
         have hz:=hten s (by omega) (by omega) (by rw [hen] at hf2; simpa using hf2)
         obtain ⟨rfl,rfl⟩:=hz
         clear hf2 call c20 c25 hpol cells hff hfe hten htro hr hrw
         gi_wp2
         refine wpIn_wide.2 ?_
         go_quiet (fail)
         rename_i KY hKY
         refine hKY _ _ ?_
         gi_wp2
         have hE2:=Below.to hE (drewN_below wE nq)
         exact ⟨⟨s+1,by omega,by omega,rfl,hI.more hw hE2,hBe.more hE2,hBw.more hE2⟩,by simp [intOf]; omega⟩
      ·obtain rfl:s=4:=by omega
       gi_wp2
       exact ⟨⟨k+1,MO8,od6,f',by omega,rfl,hI.L,hI.W,by rw [← hton]; exact hff⟩,by simp [intOf]; omega⟩
  ·gi_wp2
   go_ret
   exact ⟨rfl,hL5.bel⟩
end SE
end
section
namespace In
open SE (GlW glT RL R)
variable {W:World}
def seatLaid:List (String×DataW Unit):=[("sidestick/gate.commands",Rows.laid_sidestick_gate_commands),("sidestick/sha.roots",Rows.laid_sidestick_sha_roots)]
theorem c267:Tryz.prog.cellsOf 267=12:=by kernel_rfl
theorem c4:Tryz.prog.cellsOf 4=1:=by kernel_rfl
theorem c235:Tryz.prog.cellsOf 235=1:=by kernel_rfl
theorem root_leaf:((List.range 64).all fun i=>leaf Tryz.prog 4 285 i == some 235)=true:=by kernel_rfl
theorem c285:Tryz.prog.cellsOf 285=64:=by kernel_rfl
theorem trod_len {H:Type} {enc:TypeId×Value→H} {P:Program} {base:Nat} {spare:Nat→Bool} {held:Bool} {t e n:Nat} {cs:List Value} {fuel:Nat} {x:DataW H×List MemPlace} (hu:P.underlying t=some (.array n e)) (h:DataW.trod enc P W base spare held fuel t cs=some x):cs.length=P.cellsOf t:=by
 obtain ⟨xs,m,_,_,hlen,_⟩:=DataW.trod_array hu h
 exact hlen
theorem trod_bool_eq {H:Type} {enc:TypeId×Value→H} {P:Program} {base:Nat} {spare:Nat→Bool} {held:Bool} {t:Nat} {cs:List Value} {fuel:Nat} {b:Bool} {ps:List MemPlace} (hu:P.underlying t=some .bool) (h:DataW.trod enc P W base spare held fuel t cs=some (.lit (.bool b),ps)):cs=[.bool b]:=by
 cases fuel with
 | zero=>simp [DataW.trod] at h
 | succ fuel =>
  rw [DataW.trod_step] at h
  unfold DataW.trodStep at h
  rw [hu] at h
  simp only at h
  split at h <;> try (first | (cases h; done) | (rename_i q; cases q; done) | (rename_i e1 e2; cases e1; done))
  simp only [Option.some.injEq,Prod.mk.injEq,DataW.lit.injEq,Lit.bool.injEq] at h
  rw [h.1]
theorem var_obj {name:String} {g:Nat} {cs:Array Value} (h:W.var? Tryz.prog name=some cs) (hg:Tryz.prog.globalNamed name=some g):∃ t fr,W.heap[g]?=some (.cells cs t fr):=by
 unfold World.var? at h
 rw [hg] at h
 simp only [Option.bind_some] at h
 split at h
 ·rename_i c t fr hh
  cases h
  exact ⟨t,fr,hh⟩
 ·cases h
theorem glw_of_laid (h:laidMetH Tryz.prog seatLaid W):GlW W:=by
 rw [MakeChecks.laidMetH_plain _ _ _ (by kernel_rfl)] at h
 obtain ⟨ps,⟨g,t,cs,fuel,p,q,hg,ht,hv,hd,⟨g',t',cs',fuel',p',q',hg',ht',hv',hd',_,_⟩,_⟩,_,_⟩:=h
 have e0:Tryz.prog.globalNamed "sidestick/gate.commands" = some 0:=by kernel_rfl
 have e1:Tryz.prog.globalNamed "sidestick/sha.roots" = some 1:=by kernel_rfl
 obtain rfl:=Option.some.inj (e0.symm.trans hg)
 obtain rfl:=Option.some.inj (e1.symm.trans hg')
 obtain rfl:=Option.some.inj ((show (Tryz.prog.globals[0]?).map (·.type)=some 267 by kernel_rfl).symm.trans ht)
 obtain rfl:=Option.some.inj ((show (Tryz.prog.globals[1]?).map (·.type)=some 285 by kernel_rfl).symm.trans ht')
 intro n l hl
 simp only [glT,cond_eq_ite] at hl
 split at hl
 ·rename_i hn
  have:=SE.nbeq hn
  subst this
  cases hl
  obtain ⟨ty,fr,hh⟩:=var_obj hv e0
  refine ⟨(Array.getElem?_eq_some_iff.1 hh).1,cs,ty,fr,hh,?_⟩
  obtain ⟨xs,m,_,ex,hlen,hl,hel⟩:=DataW.trod_array Tryz.underlying267 hd
  rw [c267] at hlen
  obtain ⟨l⟩:=cs
  match l,hlen with
  | [a0,a1,a2,a3,a4,a5,a6,a7,a8,a9,a10,a11],_ =>
   match xs,hl with
   | [x0,x1,x2,x3,x4,x5,x6,x7,x8,x9,x10,x11],_ =>
    have e3:=(DataW.agg.inj (Prod.mk.inj ex).1)
    simp only [List.map_cons,List.map_nil,List.cons.injEq,and_true] at e3
    have key:∀ i,i<12→∀ (a:Value) (x:DataW Unit×List MemPlace) (b:Bool),[a0,a1,a2,a3,a4,a5,a6,a7,a8,a9,a10,a11][i]?=some a→[x0,x1,x2,x3,x4,x5,x6,x7,x8,x9,x10,x11][i]?=some x→x.1=.lit (.bool b)→a=.bool b:=fun i hi a x b ha hx hb=>by
     have h1:=hel i hi
     rw [hx,c4,Nat.mul_one] at h1
     obtain ⟨x1,x2⟩:=x
     simp only at hb
     subst hb
     have h2:=trod_bool_eq Tryz.underlying4 h1
     have h3:(List.take 1 (List.drop i [a0,a1,a2,a3,a4,a5,a6,a7,a8,a9,a10,a11]))[0]?=some a:=by
      rw [List.getElem?_take,if_pos (by omega),List.getElem?_drop]
      exact ha
     rw [h2] at h3
     simpa using h3.symm
    obtain ⟨f0,f1,f2,f3,f4,f5,f6,f7,f8,f9,f10,f11⟩:=e3
    have k0:=key 0 (by omega) _ _ _ rfl rfl f0.symm
    have k1:=key 1 (by omega) _ _ _ rfl rfl f1.symm
    have k2:=key 2 (by omega) _ _ _ rfl rfl f2.symm
    have k3:=key 3 (by omega) _ _ _ rfl rfl f3.symm
    have k4:=key 4 (by omega) _ _ _ rfl rfl f4.symm
    have k5:=key 5 (by omega) _ _ _ rfl rfl f5.symm
    have k6:=key 6 (by omega) _ _ _ rfl rfl f6.symm
    have k7:=key 7 (by omega) _ _ _ rfl rfl f7.symm
    have k8:=key 8 (by omega) _ _ _ rfl rfl f8.symm
    have k9:=key 9 (by omega) _ _ _ rfl rfl f9.symm
    have k10:=key 10 (by omega) _ _ _ rfl rfl f10.symm
    have k11:=key 11 (by omega) _ _ _ rfl rfl f11.symm
    subst k0 k1 k2 k3 k4 k5 k6 k7 k8 k9 k10 k11
    simp [RL,R]
 ·split at hl
  ·rename_i hn
   have:=SE.nbeq hn
   subst this
   cases hl
   obtain ⟨ty,fr,hh⟩:=var_obj hv' e1
   refine ⟨(Array.getElem?_eq_some_iff.1 hh).1,cs',ty,fr,hh,?_⟩
   have hlen:=trod_len Tryz.underlying285 hd'
   rw [c285] at hlen
   have key:∀ i,i<64→∃ z:Int,cs'.toList[i]?=some (.int .u32 z)∧0≤z∧z≤4294967295:=fun i hi=>by
    have hl:=List.all_eq_true.1 root_leaf i (List.mem_range.2 hi)
    obtain ⟨v,f',x',h1,h2⟩:=leaf_trod 4 285 i 235 _ _ _ (by simpa using hl) hd'
    obtain ⟨z,rfl,hz⟩:=trod_int Tryz.underlying235 h2
    simp only [Lit.wf,Bool.and_eq_true,decide_eq_true_eq] at hz
    exact ⟨z,h1,hz⟩
   have gen:∀ (n:Nat) (l:List Value),l.length=n→(∀ i,i<n→∃ z:Int,l[i]?=some (.int .u32 z)∧0≤z∧z≤4294967295)→RL (fun _=>none) (SE.rep n SE.u32) l:=by
    intro n
    induction n with
    | zero=>intro l h _; cases l with
     | nil=>simp [SE.rep,RL]
     | cons=>simp at h
    | succ n ih =>
     intro l h hk
     cases l with
     | nil=>simp at h
     | cons a l =>
      obtain ⟨z,hz,z1,z2⟩:=hk 0 (by omega)
      simp at hz
      subst hz
      simp only [SE.rep]
      refine SE.RL_cons.2 ⟨?_,ih l (by simpa using h) fun i hi=>by simpa using hk (i+1) (by omega)⟩
      simp only [SE.u32,R,SE.SIok]
      exact ⟨z,⟨z1,z2⟩,rfl⟩
   exact gen 64 _ hlen key
  ·cases hl
end In
end
section
namespace In
open SE (PolA ByteRow isK i64)
variable {H:Type} {enc:TypeId×Value→H} {W:World} {spare:Nat→Bool} {held:Bool}
theorem pol_leaf:((List.range 56).all fun i=>leaf Tryz.prog 6 28 i == some (if isK i then 3 else 23))=true:=by kernel_rfl
theorem pol_types:Tryz.prog.cellTypes Tryz.prog.depth 28=some ((List.range 56).map fun i=>if isK i then 3 else 23):=by kernel_rfl
theorem pol_cells:Tryz.prog.cellsOf 28=56:=by kernel_rfl
theorem pol_row:∃ fs,Tryz.prog.underlying 28=some (.struct fs):=by
 have h:(match Tryz.prog.underlying 28 with | some (.struct _)=>true | _=>false)=true:=by kernel_rfl
 split at h
 ·rename_i fs e; exact ⟨fs,e⟩
 ·cases h
theorem pol_in {base:Nat} {v:Value} {fuel:Nat} {x:DataW H×List MemPlace} (hok:Value.okWide Tryz.prog W .any base 28 v) (h:DataW.trod enc Tryz.prog W 0 spare held fuel 28 v.cells.toList=some x) :
  ∃ ps:Array Value,v=.agg ps∧PolA W ps:=by
 unfold Value.okWide at hok
 obtain ⟨fs,hfs⟩:=pol_row
 rw [hfs] at hok
 obtain ⟨cs,rfl,hsz,ts,ht,_,hty⟩:=hok
 rw [pol_types] at ht
 cases ht
 rw [pol_cells] at hsz
 refine ⟨cs,rfl,hsz,fun i hi hk=>?_,fun i hi=>?_⟩
 ·have hl:=List.all_eq_true.1 pol_leaf i (List.mem_range.2 hi)
  have hkk:isK i=true:=by
   cases hb:isK i with
   | true=>rfl
   | false =>
    obtain ⟨a,b⟩:=SE.isK_no hb
    omega
  rw [hkk] at hl
  obtain ⟨u,f',x',h1,h2⟩:=leaf_trod 6 28 i 3 _ fuel x (by simpa using hl) h
  obtain ⟨z,rfl,hz⟩:=trod_int Tryz.underlying3 h2
  exact ⟨z,by simpa [Value.cells,i64] using h1,wf_i64 hz⟩
 ·have hl:=List.all_eq_true.1 pol_leaf (5+i) (List.mem_range.2 (by omega))
  have hkk:isK (5+i)=false:=by
   match i,hi with
   | 0,_=>rfl
   | 1,_=>rfl
   | 2,_=>rfl
   | 3,_=>rfl
  rw [hkk] at hl
  obtain ⟨u,f',x',h1,h2⟩:=leaf_trod 6 28 (5+i) 23 _ fuel x (by simpa using hl) h
  have h1':cs[5+i]?=some u:=by simpa [Value.cells] using h1
  rcases trod_slice Tryz.underlying23 h2 with rfl | ⟨a,len,cap,rfl,q1,q2,_⟩
  ·exact ⟨none,0,0,h1',by decide,Nat.le_refl _,rfl,fun x hx=>by cases hx⟩
  ·obtain ⟨_,_,hb⟩:=bytes_trod h2
   obtain ⟨t,ht1,ht2⟩:=hty (5+i) _ h1'
   have hlen:((List.range 56).map fun i=>if isK i then 3 else 23).length=56:=by simp
   rw [hlen,Nat.mod_eq_of_lt (by omega)] at ht1
   simp only [List.getElem?_map,List.getElem?_range (show 5+i<56 by omega),Option.map_some,hkk] at ht1
   cases ht1
   unfold Cell.okWide at ht2
   simp only [Bool.false_eq_true,if_false,Tryz.underlying23] at ht2
   unfold Cell.ok at ht2
   simp only [Tryz.underlying23] at ht2
   obtain ⟨hs,vs,e,fr,hg⟩:=has_obj ht2.2.2
   refine ⟨some a,len,cap,h1',?_,q1,⟨hs,vs,e,fr,hg,fun j hj=>?_⟩,fun x hx=>by cases hx; exact (Array.getElem?_eq_some_iff.1 hg).1⟩
   ·have:maxLen=9223372036854775807:=rfl
    simp only [Int.ofNat_eq_natCast]
    omega
   ·obtain ⟨z,z1,z2,z3⟩:=hb j hj
    rw [add_at hs,SE.cell_at hg] at z3
    exact ⟨z,z1,z2,z3⟩
end In
end
end Go.Proofs.YtdgejnakakjgfaaGreatDoor
