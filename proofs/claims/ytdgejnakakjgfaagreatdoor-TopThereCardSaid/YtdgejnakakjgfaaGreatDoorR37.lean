/- The head of the laws. How things stand: the runs of core.Site. How things stand: the runs, one by one. -/
import Derived.Test.YtdgejnakakjgfaaGreatDoorR36
import Derived.Test.YtdgejnakakjgfaaGreatDoorR33
set_option linter.unusedVariables false
set_option linter.unusedSimpArgs false
set_option maxRecDepth 100000
namespace Go.Proofs.YtdgejnakakjgfaaGreatDoor
section
namespace SE
open Go.RowKit Mc
attribute [local go_sem] Oper.semAt_some
set_option maxHeartbeats 4000000
section
variable {P:Program} {ops:Array Oper} {o:Oper} {a:Act} {w:World} {Q:Exit→Act→World→Prop} {K:Act→World→Prop} {i:Nat}
theorem op_valg {v:Value} {w':World} (hi:ops[i]?=some o) (hg:Region.wanted o (yielded ops a.tmps)=true) (hrun:(execOp a.eval o).run P w=.ok (.value v) w') (h:K (a.put o.dst v) w'):wpOp P ops Q i K a w:=by
 unfold Go.wpOp
 simp only [hi]
 rw [if_pos hg]
 refine .inl ?_
 unfold Oper.wp
 rw [hrun]
 exact h
theorem op_callg {f:FuncId} {args:Array Value} (hi:ops[i]?=some o) (hg:Region.wanted o (yielded ops a.tmps)=true) (hrun:(execOp a.eval o).run P w=.ok (.enter f args) w) (h:Calls P f args w fun e w'=>∃ v,e=.returned v∧K (a.put o.dst v) w'):wpOp P ops Q i K a w:=by
 unfold Go.wpOp
 simp only [hi]
 rw [if_pos hg]
 refine .inl ?_
 unfold Oper.wp
 rw [hrun]
 simp only [Oper.upon]
 refine Calls.mono h fun e w'' he=>?_
 obtain ⟨v,rfl,hk⟩:=he
 exact hk
end
theorem act_un:∃ d,Tryz.prog.underlying 38=some d∧d.isRow=true:=by
 have h:(Tryz.prog.underlying 38).map (·.isRow)=some true:=by kernel_rfl
 cases hd:Tryz.prog.underlying 38 with
 | none=>rw [hd] at h; cases h
 | some d=>rw [hd] at h; exact ⟨d,rfl,by simpa using h⟩
theorem act_info:(Tryz.prog.info? 38).map (·.size)=some 12:=by kernel_rfl
theorem site_info:(Tryz.prog.info? 55).map (·.size)=some 31:=by kernel_rfl
theorem name15:Tryz.f15.name ≠ "runtime.NumGoroutine" := by
 have h:(Tryz.f15.name == "runtime.NumGoroutine")=false:=by kernel_rfl
 intro e
 rw [e] at h
 cases h
theorem body15:Tryz.f15.body≠none:=by
 have h:Tryz.f15.body.isNone=false:=by kernel_rfl
 intro e
 rw [e] at h
 cases h
theorem shown_any {w:World} (hw:GlW w):Calls Tryz.prog 7 #[] w fun e w'=>e=.returned (.bool true)∧Below w.heap.size w w':=by
 refine (callsIn_wide (n:=3)).1 (callsIn_of_wp Tryz.func7 rfl trivial ?_ rfl)
 simp only [Tryz.ntmps7,List.size_toArray,List.length_cons,List.length_nil,Nat.reduceAdd,Nat.reduceSub,Array.replicate_succ,Array.replicate_zero,List.push_toArray,List.append_toArray,List.nil_append,List.cons_append]
 gi_wp2
 rename_i K1 hK1 K2 hK2
 generalize hwA:World.alloc w _=wA
 have hbA:Below w.heap.size w wA:=by rw [← hwA]; exact (Below.refl _ _).alloc (Nat.le_refl _) _
 have hboxA:∃ es:Array Value,wA.heap[w.heap.size]?=some (.cells es 48 (0,0))∧es.toList=evV:=⟨_,by rw [← hwA]; exact heap_alloc_new w _,rfl⟩
 obtain ⟨es,hbox,hes⟩:=hboxA
 refine ⟨trivial,?_⟩
 refine (callsIn_wide.2 (zpol_any (hw.belowW hbA) (by rfl) hes hbox fun cs h=>by have:=(hw _ _ h).1; omega)).mono ?_
 rintro e w1 ⟨hb1,n,c,cs,ss,rfl,hss,hn,hcs,hc1⟩
 refine hK2 _ _ ?_
 obtain rfl:ss=siteV.toArray:=by rw [← hss]
 have hone:∀ u∈siteV.toArray.toList,u.oneCell'=true:=by
  intro u hu
  have hall:siteV.all (fun u=>u.oneCell')=true:=by decide
  exact List.all_eq_true.1 hall u hu
 gi_wp2_with (first
  | (refine in_store (b:=w1.heap.size) (off:=0) (xs:=siteV.toArray) (v:=.agg siteV.toArray) rfl rfl rfl rfl rfl hone site_info (heap_alloc_new w1 _) (by decide) fun w2 hw2=>?_; simp only [Act.put,List.setIfInBounds_toArray,List.set_cons_succ,List.set_cons_zero])
  | fail)
 rename_i K3 hK3
 have hmx:Tryz.prog.follows .mixedOrders=true:=by kernel_rfl
 obtain ⟨d38,hd38,hr38⟩:=act_un
 have zA:=hbA.size
 have z1:=hb1.size
 have z2:w2.heap.size=w1.heap.size+1:=by rw [hw2.size,alloc_size]
 have hnl:n<w1.heap.size:=(Array.getElem?_eq_some_iff.1 hn).1
 have k12:∀ m,m<w1.heap.size→w2.heap[m]?=w1.heap[m]?:=fun m hm=>(hw2.same m (by omega)).trans (alloc_same w1 _ m hm)
 obtain ⟨wD,hwD0⟩:∃ wD,wD=w2.drew:=⟨_,rfl⟩
 have hD:wD.heap=w2.heap:=by rw [hwD0]; rfl
 have b12:Below w1.heap.size w1 w2:=⟨hw2.os,hw2.tape,hw2.output,by omega,k12⟩
 have b2D:Below w2.heap.size w2 wD:=by rw [hwD0]; exact ⟨rfl,rfl,rfl,Nat.le_refl _,fun n _=>rfl⟩
 have bD:Below w.heap.size w wD:=⟨b2D.os.trans (b12.os.trans (hb1.os.trans hbA.os)),b2D.tape.trans (b12.tape.trans (hb1.tape.trans hbA.tape)),b2D.output.trans (b12.output.trans (hb1.output.trans hbA.output)),by rw [hD]; omega,fun m hm=>by rw [hD,k12 m (by omega),hb1.block m (by omega)]; exact hbA.block m hm⟩
 have hwD:GlW wD:=hw.belowW bD
 have cD:wD.heap[n]?=some (.cells cs 43 (0,0)):=by rw [hD,k12 n hnl]; exact hn
 have hnD:n<wD.heap.size:=by rw [hD]; omega
 have hsz:46≤cs.size:=by
  have:=congrArg List.length hcs
  rw [List.length_take,Array.length_toList] at this
  have e:deadVs.length=46:=rfl
  omega
 have hfix:((cs.toList.drop 0).take 12).toArray=fixV.toArray:=by
  have:cs.toList.take 12=(cs.toList.take 46).take 12:=by rw [List.take_take]; rfl
  rw [List.drop_zero,this,hcs]
  rfl
 clear hw2 hwA hbox hes hone hss
 refine wpIn_wide.2 (wp_region_any hmx ?_)
 have hwD':({ w2 with drawn:=w2.drawn+1 }:World)=wD:=by rw [hwD0]; rfl
 rw [hwD']
 have fin:∀ w3:World,Below wD.heap.size wD w3→Below w.heap.size w w3:=fun w3 hb=>⟨hb.os.trans bD.os,hb.tape.trans bD.tape,hb.output.trans bD.output,Nat.le_trans bD.size hb.size,fun m hm=>(hb.block m (Nat.lt_of_lt_of_le hm bD.size)).trans (bD.block m hm)⟩
 show wpAny _ _ _ _ 16 #[false,false,false,false,false,false,false,false,false,false,false,false,false,false,false,false] _ _
 refine wpAny_one (i:=0) (by kernel_rfl) ?_
 refine op_valg (i:=0) (v:=.slice (some ⟨n,0,none⟩) 1 c) (w':=wD) rfl (by kernel_rfl) (by kernel_rfl) ?_
 simp only [List.getElem_toArray,List.getElem_cons_zero,List.getElem_cons_succ,Act.put,List.setIfInBounds_toArray,List.set_cons_succ,List.set_cons_zero]
 refine wpAny_one (i:=1) (by kernel_rfl) ?_
 refine op_valg (i:=1) (v:=i64 1) (w':=wD) rfl (by kernel_rfl) (by kernel_rfl) ?_
 simp only [List.getElem_toArray,List.getElem_cons_zero,List.getElem_cons_succ,Act.put,List.setIfInBounds_toArray,List.set_cons_succ,List.set_cons_zero]
 refine wpAny_one (i:=2) (by kernel_rfl) ?_
 refine op_valg (i:=2) (v:=.bool true) (w':=wD) rfl (by kernel_rfl) (by kernel_rfl) ?_
 simp only [List.getElem_toArray,List.getElem_cons_zero,List.getElem_cons_succ,Act.put,List.setIfInBounds_toArray,List.set_cons_succ,List.set_cons_zero]
 refine wpAny_one (i:=3) (by kernel_rfl) ?_
 refine op_valg (i:=3) (v:=.bool true) (w':=wD) rfl (by kernel_rfl) (by kernel_rfl) ?_
 simp only [List.getElem_toArray,List.getElem_cons_zero,List.getElem_cons_succ,Act.put,List.setIfInBounds_toArray,List.set_cons_succ,List.set_cons_zero]
 refine wpAny_two (i:=4) (j:=8) (by kernel_rfl) ?_ ?_
 ·skip
  refine op_valg (i:=4) (v:=.slice (some ⟨n,0,none⟩) 1 c) (w':=wD) rfl (by kernel_rfl) (by kernel_rfl) ?_
  simp only [List.getElem_toArray,List.getElem_cons_zero,List.getElem_cons_succ,Act.put,List.setIfInBounds_toArray,List.set_cons_succ,List.set_cons_zero]
  refine wpAny_two (i:=5) (j:=8) (by kernel_rfl) ?_ ?_
  ·skip
   refine op_valg (i:=5) (v:=.pointer (some ⟨n,0,none⟩)) (w':=wD) rfl (by kernel_rfl) (by kernel_rfl) ?_
   simp only [List.getElem_toArray,List.getElem_cons_zero,List.getElem_cons_succ,Act.put,List.setIfInBounds_toArray,List.set_cons_succ,List.set_cons_zero]
   refine wpAny_two (i:=6) (j:=8) (by kernel_rfl) ?_ ?_
   ·skip
    refine op_valg (i:=6) (v:=.pointer (some ⟨n,0,none⟩)) (w':=wD) rfl (by kernel_rfl) (by kernel_rfl) ?_
    simp only [List.getElem_toArray,List.getElem_cons_zero,List.getElem_cons_succ,Act.put,List.setIfInBounds_toArray,List.set_cons_succ,List.set_cons_zero]
    refine wpAny_two (i:=7) (j:=8) (by kernel_rfl) ?_ ?_
    ·skip
     refine op_valg (i:=7) rfl (by kernel_rfl) (run_rowload (b:=n) (off:=0) (n:=12) (d:=d38) rfl rfl cD hd38 hr38 act_info (by omega)) ?_
     rw [hfix]
     simp only [List.getElem_toArray,List.getElem_cons_zero,List.getElem_cons_succ,Act.put,List.setIfInBounds_toArray,List.set_cons_succ,List.set_cons_zero]
     refine wpAny_one (i:=8) (by kernel_rfl) ?_
     refine op_callg (i:=8) (f:=15) (args:=#[]) rfl (by kernel_rfl) (run_callf rfl Tryz.func15 name15 body15 (by simp)) ((fixed_any hwD).mono ?_)
     rintro e w3 ⟨fs,rfl,hfs,hb3⟩
     obtain rfl:fs=fixV.toArray:=by rw [← hfs]
     refine ⟨_,rfl,?_⟩
     simp only [List.getElem_toArray,List.getElem_cons_zero,List.getElem_cons_succ,Act.put,List.setIfInBounds_toArray,List.set_cons_succ,List.set_cons_zero]
     refine wpAny_one (i:=9) (by kernel_rfl) ?_
     refine op_valg (i:=9) (v:=.bool true) (w':=w3) rfl (by kernel_rfl) (by kernel_rfl) ?_
     simp only [List.getElem_toArray,List.getElem_cons_zero,List.getElem_cons_succ,Act.put,List.setIfInBounds_toArray,List.set_cons_succ,List.set_cons_zero]
     refine wpAny_one (i:=10) (by kernel_rfl) ?_
     refine op_valg (i:=10) (v:=.bool true) (w':=w3) rfl (by kernel_rfl) (by kernel_rfl) ?_
     simp only [List.getElem_toArray,List.getElem_cons_zero,List.getElem_cons_succ,Act.put,List.setIfInBounds_toArray,List.set_cons_succ,List.set_cons_zero]
     refine wpAny_one (i:=11) (by kernel_rfl) ?_
     refine op_valg (i:=11) (v:=.bool true) (w':=w3) rfl (by kernel_rfl) (by kernel_rfl) ?_
     simp only [List.getElem_toArray,List.getElem_cons_zero,List.getElem_cons_succ,Act.put,List.setIfInBounds_toArray,List.set_cons_succ,List.set_cons_zero]
     refine wpAny_one (i:=12) (by kernel_rfl) ?_
     refine op_valg (i:=12) (v:=i64 40) (w':=w3) rfl (by kernel_rfl) (by kernel_rfl) ?_
     simp only [List.getElem_toArray,List.getElem_cons_zero,List.getElem_cons_succ,Act.put,List.setIfInBounds_toArray,List.set_cons_succ,List.set_cons_zero]
     refine wpAny_one (i:=13) (by kernel_rfl) ?_
     refine op_valg (i:=13) (v:=.bool true) (w':=w3) rfl (by kernel_rfl) (by kernel_rfl) ?_
     simp only [List.getElem_toArray,List.getElem_cons_zero,List.getElem_cons_succ,Act.put,List.setIfInBounds_toArray,List.set_cons_succ,List.set_cons_zero]
     refine wpAny_one (i:=14) (by kernel_rfl) ?_
     refine op_valg (i:=14) (v:=.bool true) (w':=w3) rfl (by kernel_rfl) (by kernel_rfl) ?_
     simp only [List.getElem_toArray,List.getElem_cons_zero,List.getElem_cons_succ,Act.put,List.setIfInBounds_toArray,List.set_cons_succ,List.set_cons_zero]
     refine wpAny_one (i:=15) (by kernel_rfl) ?_
     refine op_valg (i:=15) (v:=.bool true) (w':=w3) rfl (by kernel_rfl) (by kernel_rfl) ?_
     simp only [List.getElem_toArray,List.getElem_cons_zero,List.getElem_cons_succ,Act.put,List.setIfInBounds_toArray,List.set_cons_succ,List.set_cons_zero]
     refine wpAny_end (by kernel_rfl) ?_
     refine hK3 _ _ ?_
     gi_wp2
     go_ret
     exact ⟨rfl,fin _ hb3⟩
    ·skip
     refine op_callg (i:=8) (f:=15) (args:=#[]) rfl (by kernel_rfl) (run_callf rfl Tryz.func15 name15 body15 (by simp)) ((fixed_any hwD).mono ?_)
     rintro e w3 ⟨fs,rfl,hfs,hb3⟩
     obtain rfl:fs=fixV.toArray:=by rw [← hfs]
     refine ⟨_,rfl,?_⟩
     simp only [List.getElem_toArray,List.getElem_cons_zero,List.getElem_cons_succ,Act.put,List.setIfInBounds_toArray,List.set_cons_succ,List.set_cons_zero]
     refine wpAny_one (i:=7) (by kernel_rfl) ?_
     refine op_valg (i:=7) rfl (by kernel_rfl) (run_rowload (b:=n) (off:=0) (n:=12) (d:=d38) rfl rfl ((hb3.block _ hnD).trans cD) hd38 hr38 act_info (by omega)) ?_
     rw [hfix]
     simp only [List.getElem_toArray,List.getElem_cons_zero,List.getElem_cons_succ,Act.put,List.setIfInBounds_toArray,List.set_cons_succ,List.set_cons_zero]
     refine wpAny_one (i:=9) (by kernel_rfl) ?_
     refine op_valg (i:=9) (v:=.bool true) (w':=w3) rfl (by kernel_rfl) (by kernel_rfl) ?_
     simp only [List.getElem_toArray,List.getElem_cons_zero,List.getElem_cons_succ,Act.put,List.setIfInBounds_toArray,List.set_cons_succ,List.set_cons_zero]
     refine wpAny_one (i:=10) (by kernel_rfl) ?_
     refine op_valg (i:=10) (v:=.bool true) (w':=w3) rfl (by kernel_rfl) (by kernel_rfl) ?_
     simp only [List.getElem_toArray,List.getElem_cons_zero,List.getElem_cons_succ,Act.put,List.setIfInBounds_toArray,List.set_cons_succ,List.set_cons_zero]
     refine wpAny_one (i:=11) (by kernel_rfl) ?_
     refine op_valg (i:=11) (v:=.bool true) (w':=w3) rfl (by kernel_rfl) (by kernel_rfl) ?_
     simp only [List.getElem_toArray,List.getElem_cons_zero,List.getElem_cons_succ,Act.put,List.setIfInBounds_toArray,List.set_cons_succ,List.set_cons_zero]
     refine wpAny_one (i:=12) (by kernel_rfl) ?_
     refine op_valg (i:=12) (v:=i64 40) (w':=w3) rfl (by kernel_rfl) (by kernel_rfl) ?_
     simp only [List.getElem_toArray,List.getElem_cons_zero,List.getElem_cons_succ,Act.put,List.setIfInBounds_toArray,List.set_cons_succ,List.set_cons_zero]
     refine wpAny_one (i:=13) (by kernel_rfl) ?_
     refine op_valg (i:=13) (v:=.bool true) (w':=w3) rfl (by kernel_rfl) (by kernel_rfl) ?_
     simp only [List.getElem_toArray,List.getElem_cons_zero,List.getElem_cons_succ,Act.put,List.setIfInBounds_toArray,List.set_cons_succ,List.set_cons_zero]
     refine wpAny_one (i:=14) (by kernel_rfl) ?_
     refine op_valg (i:=14) (v:=.bool true) (w':=w3) rfl (by kernel_rfl) (by kernel_rfl) ?_
     simp only [List.getElem_toArray,List.getElem_cons_zero,List.getElem_cons_succ,Act.put,List.setIfInBounds_toArray,List.set_cons_succ,List.set_cons_zero]
     refine wpAny_one (i:=15) (by kernel_rfl) ?_
     refine op_valg (i:=15) (v:=.bool true) (w':=w3) rfl (by kernel_rfl) (by kernel_rfl) ?_
     simp only [List.getElem_toArray,List.getElem_cons_zero,List.getElem_cons_succ,Act.put,List.setIfInBounds_toArray,List.set_cons_succ,List.set_cons_zero]
     refine wpAny_end (by kernel_rfl) ?_
     refine hK3 _ _ ?_
     gi_wp2
     go_ret
     exact ⟨rfl,fin _ hb3⟩
   ·skip
    refine op_callg (i:=8) (f:=15) (args:=#[]) rfl (by kernel_rfl) (run_callf rfl Tryz.func15 name15 body15 (by simp)) ((fixed_any hwD).mono ?_)
    rintro e w3 ⟨fs,rfl,hfs,hb3⟩
    obtain rfl:fs=fixV.toArray:=by rw [← hfs]
    refine ⟨_,rfl,?_⟩
    simp only [List.getElem_toArray,List.getElem_cons_zero,List.getElem_cons_succ,Act.put,List.setIfInBounds_toArray,List.set_cons_succ,List.set_cons_zero]
    refine wpAny_one (i:=6) (by kernel_rfl) ?_
    refine op_valg (i:=6) (v:=.pointer (some ⟨n,0,none⟩)) (w':=w3) rfl (by kernel_rfl) (by kernel_rfl) ?_
    simp only [List.getElem_toArray,List.getElem_cons_zero,List.getElem_cons_succ,Act.put,List.setIfInBounds_toArray,List.set_cons_succ,List.set_cons_zero]
    refine wpAny_one (i:=7) (by kernel_rfl) ?_
    refine op_valg (i:=7) rfl (by kernel_rfl) (run_rowload (b:=n) (off:=0) (n:=12) (d:=d38) rfl rfl ((hb3.block _ hnD).trans cD) hd38 hr38 act_info (by omega)) ?_
    rw [hfix]
    simp only [List.getElem_toArray,List.getElem_cons_zero,List.getElem_cons_succ,Act.put,List.setIfInBounds_toArray,List.set_cons_succ,List.set_cons_zero]
    refine wpAny_one (i:=9) (by kernel_rfl) ?_
    refine op_valg (i:=9) (v:=.bool true) (w':=w3) rfl (by kernel_rfl) (by kernel_rfl) ?_
    simp only [List.getElem_toArray,List.getElem_cons_zero,List.getElem_cons_succ,Act.put,List.setIfInBounds_toArray,List.set_cons_succ,List.set_cons_zero]
    refine wpAny_one (i:=10) (by kernel_rfl) ?_
    refine op_valg (i:=10) (v:=.bool true) (w':=w3) rfl (by kernel_rfl) (by kernel_rfl) ?_
    simp only [List.getElem_toArray,List.getElem_cons_zero,List.getElem_cons_succ,Act.put,List.setIfInBounds_toArray,List.set_cons_succ,List.set_cons_zero]
    refine wpAny_one (i:=11) (by kernel_rfl) ?_
    refine op_valg (i:=11) (v:=.bool true) (w':=w3) rfl (by kernel_rfl) (by kernel_rfl) ?_
    simp only [List.getElem_toArray,List.getElem_cons_zero,List.getElem_cons_succ,Act.put,List.setIfInBounds_toArray,List.set_cons_succ,List.set_cons_zero]
    refine wpAny_one (i:=12) (by kernel_rfl) ?_
    refine op_valg (i:=12) (v:=i64 40) (w':=w3) rfl (by kernel_rfl) (by kernel_rfl) ?_
    simp only [List.getElem_toArray,List.getElem_cons_zero,List.getElem_cons_succ,Act.put,List.setIfInBounds_toArray,List.set_cons_succ,List.set_cons_zero]
    refine wpAny_one (i:=13) (by kernel_rfl) ?_
    refine op_valg (i:=13) (v:=.bool true) (w':=w3) rfl (by kernel_rfl) (by kernel_rfl) ?_
    simp only [List.getElem_toArray,List.getElem_cons_zero,List.getElem_cons_succ,Act.put,List.setIfInBounds_toArray,List.set_cons_succ,List.set_cons_zero]
    refine wpAny_one (i:=14) (by kernel_rfl) ?_
    refine op_valg (i:=14) (v:=.bool true) (w':=w3) rfl (by kernel_rfl) (by kernel_rfl) ?_
    simp only [List.getElem_toArray,List.getElem_cons_zero,List.getElem_cons_succ,Act.put,List.setIfInBounds_toArray,List.set_cons_succ,List.set_cons_zero]
    refine wpAny_one (i:=15) (by kernel_rfl) ?_
    refine op_valg (i:=15) (v:=.bool true) (w':=w3) rfl (by kernel_rfl) (by kernel_rfl) ?_
    simp only [List.getElem_toArray,List.getElem_cons_zero,List.getElem_cons_succ,Act.put,List.setIfInBounds_toArray,List.set_cons_succ,List.set_cons_zero]
    refine wpAny_end (by kernel_rfl) ?_
    refine hK3 _ _ ?_
    gi_wp2
    go_ret
    exact ⟨rfl,fin _ hb3⟩
  ·skip
   refine op_callg (i:=8) (f:=15) (args:=#[]) rfl (by kernel_rfl) (run_callf rfl Tryz.func15 name15 body15 (by simp)) ((fixed_any hwD).mono ?_)
   rintro e w3 ⟨fs,rfl,hfs,hb3⟩
   obtain rfl:fs=fixV.toArray:=by rw [← hfs]
   refine ⟨_,rfl,?_⟩
   simp only [List.getElem_toArray,List.getElem_cons_zero,List.getElem_cons_succ,Act.put,List.setIfInBounds_toArray,List.set_cons_succ,List.set_cons_zero]
   refine wpAny_one (i:=5) (by kernel_rfl) ?_
   refine op_valg (i:=5) (v:=.pointer (some ⟨n,0,none⟩)) (w':=w3) rfl (by kernel_rfl) (by kernel_rfl) ?_
   simp only [List.getElem_toArray,List.getElem_cons_zero,List.getElem_cons_succ,Act.put,List.setIfInBounds_toArray,List.set_cons_succ,List.set_cons_zero]
   refine wpAny_one (i:=6) (by kernel_rfl) ?_
   refine op_valg (i:=6) (v:=.pointer (some ⟨n,0,none⟩)) (w':=w3) rfl (by kernel_rfl) (by kernel_rfl) ?_
   simp only [List.getElem_toArray,List.getElem_cons_zero,List.getElem_cons_succ,Act.put,List.setIfInBounds_toArray,List.set_cons_succ,List.set_cons_zero]
   refine wpAny_one (i:=7) (by kernel_rfl) ?_
   refine op_valg (i:=7) rfl (by kernel_rfl) (run_rowload (b:=n) (off:=0) (n:=12) (d:=d38) rfl rfl ((hb3.block _ hnD).trans cD) hd38 hr38 act_info (by omega)) ?_
   rw [hfix]
   simp only [List.getElem_toArray,List.getElem_cons_zero,List.getElem_cons_succ,Act.put,List.setIfInBounds_toArray,List.set_cons_succ,List.set_cons_zero]
   refine wpAny_one (i:=9) (by kernel_rfl) ?_
   refine op_valg (i:=9) (v:=.bool true) (w':=w3) rfl (by kernel_rfl) (by kernel_rfl) ?_
   simp only [List.getElem_toArray,List.getElem_cons_zero,List.getElem_cons_succ,Act.put,List.setIfInBounds_toArray,List.set_cons_succ,List.set_cons_zero]
   refine wpAny_one (i:=10) (by kernel_rfl) ?_
   refine op_valg (i:=10) (v:=.bool true) (w':=w3) rfl (by kernel_rfl) (by kernel_rfl) ?_
   simp only [List.getElem_toArray,List.getElem_cons_zero,List.getElem_cons_succ,Act.put,List.setIfInBounds_toArray,List.set_cons_succ,List.set_cons_zero]
   refine wpAny_one (i:=11) (by kernel_rfl) ?_
   refine op_valg (i:=11) (v:=.bool true) (w':=w3) rfl (by kernel_rfl) (by kernel_rfl) ?_
   simp only [List.getElem_toArray,List.getElem_cons_zero,List.getElem_cons_succ,Act.put,List.setIfInBounds_toArray,List.set_cons_succ,List.set_cons_zero]
   refine wpAny_one (i:=12) (by kernel_rfl) ?_
   refine op_valg (i:=12) (v:=i64 40) (w':=w3) rfl (by kernel_rfl) (by kernel_rfl) ?_
   simp only [List.getElem_toArray,List.getElem_cons_zero,List.getElem_cons_succ,Act.put,List.setIfInBounds_toArray,List.set_cons_succ,List.set_cons_zero]
   refine wpAny_one (i:=13) (by kernel_rfl) ?_
   refine op_valg (i:=13) (v:=.bool true) (w':=w3) rfl (by kernel_rfl) (by kernel_rfl) ?_
   simp only [List.getElem_toArray,List.getElem_cons_zero,List.getElem_cons_succ,Act.put,List.setIfInBounds_toArray,List.set_cons_succ,List.set_cons_zero]
   refine wpAny_one (i:=14) (by kernel_rfl) ?_
   refine op_valg (i:=14) (v:=.bool true) (w':=w3) rfl (by kernel_rfl) (by kernel_rfl) ?_
   simp only [List.getElem_toArray,List.getElem_cons_zero,List.getElem_cons_succ,Act.put,List.setIfInBounds_toArray,List.set_cons_succ,List.set_cons_zero]
   refine wpAny_one (i:=15) (by kernel_rfl) ?_
   refine op_valg (i:=15) (v:=.bool true) (w':=w3) rfl (by kernel_rfl) (by kernel_rfl) ?_
   simp only [List.getElem_toArray,List.getElem_cons_zero,List.getElem_cons_succ,Act.put,List.setIfInBounds_toArray,List.set_cons_succ,List.set_cons_zero]
   refine wpAny_end (by kernel_rfl) ?_
   refine hK3 _ _ ?_
   gi_wp2
   go_ret
   exact ⟨rfl,fin _ hb3⟩
 ·skip
  refine op_callg (i:=8) (f:=15) (args:=#[]) rfl (by kernel_rfl) (run_callf rfl Tryz.func15 name15 body15 (by simp)) ((fixed_any hwD).mono ?_)
  rintro e w3 ⟨fs,rfl,hfs,hb3⟩
  obtain rfl:fs=fixV.toArray:=by rw [← hfs]
  refine ⟨_,rfl,?_⟩
  simp only [List.getElem_toArray,List.getElem_cons_zero,List.getElem_cons_succ,Act.put,List.setIfInBounds_toArray,List.set_cons_succ,List.set_cons_zero]
  refine wpAny_one (i:=4) (by kernel_rfl) ?_
  refine op_valg (i:=4) (v:=.slice (some ⟨n,0,none⟩) 1 c) (w':=w3) rfl (by kernel_rfl) (by kernel_rfl) ?_
  simp only [List.getElem_toArray,List.getElem_cons_zero,List.getElem_cons_succ,Act.put,List.setIfInBounds_toArray,List.set_cons_succ,List.set_cons_zero]
  refine wpAny_one (i:=5) (by kernel_rfl) ?_
  refine op_valg (i:=5) (v:=.pointer (some ⟨n,0,none⟩)) (w':=w3) rfl (by kernel_rfl) (by kernel_rfl) ?_
  simp only [List.getElem_toArray,List.getElem_cons_zero,List.getElem_cons_succ,Act.put,List.setIfInBounds_toArray,List.set_cons_succ,List.set_cons_zero]
  refine wpAny_one (i:=6) (by kernel_rfl) ?_
  refine op_valg (i:=6) (v:=.pointer (some ⟨n,0,none⟩)) (w':=w3) rfl (by kernel_rfl) (by kernel_rfl) ?_
  simp only [List.getElem_toArray,List.getElem_cons_zero,List.getElem_cons_succ,Act.put,List.setIfInBounds_toArray,List.set_cons_succ,List.set_cons_zero]
  refine wpAny_one (i:=7) (by kernel_rfl) ?_
  refine op_valg (i:=7) rfl (by kernel_rfl) (run_rowload (b:=n) (off:=0) (n:=12) (d:=d38) rfl rfl ((hb3.block _ hnD).trans cD) hd38 hr38 act_info (by omega)) ?_
  rw [hfix]
  simp only [List.getElem_toArray,List.getElem_cons_zero,List.getElem_cons_succ,Act.put,List.setIfInBounds_toArray,List.set_cons_succ,List.set_cons_zero]
  refine wpAny_one (i:=9) (by kernel_rfl) ?_
  refine op_valg (i:=9) (v:=.bool true) (w':=w3) rfl (by kernel_rfl) (by kernel_rfl) ?_
  simp only [List.getElem_toArray,List.getElem_cons_zero,List.getElem_cons_succ,Act.put,List.setIfInBounds_toArray,List.set_cons_succ,List.set_cons_zero]
  refine wpAny_one (i:=10) (by kernel_rfl) ?_
  refine op_valg (i:=10) (v:=.bool true) (w':=w3) rfl (by kernel_rfl) (by kernel_rfl) ?_
  simp only [List.getElem_toArray,List.getElem_cons_zero,List.getElem_cons_succ,Act.put,List.setIfInBounds_toArray,List.set_cons_succ,List.set_cons_zero]
  refine wpAny_one (i:=11) (by kernel_rfl) ?_
  refine op_valg (i:=11) (v:=.bool true) (w':=w3) rfl (by kernel_rfl) (by kernel_rfl) ?_
  simp only [List.getElem_toArray,List.getElem_cons_zero,List.getElem_cons_succ,Act.put,List.setIfInBounds_toArray,List.set_cons_succ,List.set_cons_zero]
  refine wpAny_one (i:=12) (by kernel_rfl) ?_
  refine op_valg (i:=12) (v:=i64 40) (w':=w3) rfl (by kernel_rfl) (by kernel_rfl) ?_
  simp only [List.getElem_toArray,List.getElem_cons_zero,List.getElem_cons_succ,Act.put,List.setIfInBounds_toArray,List.set_cons_succ,List.set_cons_zero]
  refine wpAny_one (i:=13) (by kernel_rfl) ?_
  refine op_valg (i:=13) (v:=.bool true) (w':=w3) rfl (by kernel_rfl) (by kernel_rfl) ?_
  simp only [List.getElem_toArray,List.getElem_cons_zero,List.getElem_cons_succ,Act.put,List.setIfInBounds_toArray,List.set_cons_succ,List.set_cons_zero]
  refine wpAny_one (i:=14) (by kernel_rfl) ?_
  refine op_valg (i:=14) (v:=.bool true) (w':=w3) rfl (by kernel_rfl) (by kernel_rfl) ?_
  simp only [List.getElem_toArray,List.getElem_cons_zero,List.getElem_cons_succ,Act.put,List.setIfInBounds_toArray,List.set_cons_succ,List.set_cons_zero]
  refine wpAny_one (i:=15) (by kernel_rfl) ?_
  refine op_valg (i:=15) (v:=.bool true) (w':=w3) rfl (by kernel_rfl) (by kernel_rfl) ?_
  simp only [List.getElem_toArray,List.getElem_cons_zero,List.getElem_cons_succ,Act.put,List.setIfInBounds_toArray,List.set_cons_succ,List.set_cons_zero]
  refine wpAny_end (by kernel_rfl) ?_
  refine hK3 _ _ ?_
  gi_wp2
  go_ret
  exact ⟨rfl,fin _ hb3⟩
end SE
end
section
namespace SE
open Go.RowKit
set_option maxHeartbeats 0
def siteT (a b c:Int):List (Nat×Int×Int):=upd (upd (upd coreSt.tab 231 (a,a)) 232 (b,b)) 233 (c,c)
def siteS (a b c:Int):SE.St:={ coreSt with tab:=siteT a b c }
def cellsN:List Nat→List SV
 | []=>[]
 | s::l=>N (Int.ofNat s)::cellsN l
def rowQ:List Nat→List (Nat×Blk)
 | []=>[]
 | l=>[(2000050,.row 3 1 2000051 (cellsN l))]
def slsQ:List Nat→List (Nat×SlI)
 | []=>[]
 | l=>[(2000051,.row 2000050 l.length)]
def valQ:List Nat→SV
 | []=>.nils
 | _=>.sl 2000051
def roQ (a:Int) (i:Nat):SV:=bif decide (a=1) then A i else I64
def siteO (a b c:Int) (l:List Nat):SV×SE.St :=
 (.agg ([A 200,I64,A 201,I64]++rep 15 I64++[valQ l]++[.bool,.cmp .ne 231 0,.cmp .ne 232 0,.cmp .ne 233 0,.tt]++[I64,roQ a 234,roQ b 235,roQ c 236,I64]++[.bool]),
  { heap:=rowQ l++(2000005,.opq)::del (upd coreHeap 3 (.cells 158 [.sl 2000030,A 148,C64])) 5
    tab:=upd (upd (upd (siteT a b c) 237 (bitR l 1)) 238 (bitR l 2)) 239 (bitR l 3)
    sls:=slsQ l++(2000030,.own 2000005 1 [U 0 3,A 237,A 238,A 239,A 148])::del coreSls 30
    nid:=2000400
    facts:=srtF l++coreFacts })
def siteM (a b c:Int):Sm:=⟨siteS a b c,[.ptr 1 0],allSeqs.map (siteO a b c)⟩
noncomputable def siteR (a b c:Int):Bool:=coreR kCore1 20 (siteM a b c)
end SE
end
section
namespace SE
set_option maxHeartbeats 0
theorem site_000:siteR 0 0 0=true:=by decide +kernel
theorem site_001:siteR 0 0 1=true:=by decide +kernel
theorem site_010:siteR 0 1 0=true:=by decide +kernel
theorem site_011:siteR 0 1 1=true:=by decide +kernel
end SE
end
end Go.Proofs.YtdgejnakakjgfaaGreatDoor
