/- The setpoint's step. Printed by gen_f.py. The core under the symbolic executor: what facts and slices mean; the contracts of rules and limits. Who is there, as what: On and Role only read. PRINTED by gen_ud.py. The core under the symbolic executor: pure functions, readers. The core under the symbolic executor: facts that hold by themselves. The core under the symbolic executor: the contracts of rules and limits. -/
import Derived.Test.YtdgejnakakjgfaaGreatDoorQ09
import Derived.Test.YtdgejnakakjgfaaGreatDoorQ08
import Derived.Laws.StructEq
import Derived.Outline
import Derived.Deep.QuietTactic
import Derived.BigQuiet
set_option linter.unusedVariables false
set_option linter.unusedSimpArgs false
set_option maxRecDepth 100000
namespace Go.Proofs.YtdgejnakakjgfaaGreatDoor
section
open Go.RowKit
theorem size3 (w:World):(sizeOf 3).run Tryz.prog w=.ok 1 w:=by
  have h:(Tryz.prog.info? 3).map (·.size)=some 1:=by kernel_rfl
  cases hq:Tryz.prog.info? 3 with
  | none=>simp [hq] at h
  | some i=>simp [hq] at h; simp [sizeOf,typeInfo,hq,h]
theorem part3 (cs:Array Value) (i:Nat) (v:Value) (w:World) (h:cs[i]?=some v):(part 3 cs i).run Tryz.prog w=.ok v w:=by
  simp [part,isAgg,run_underlying Tryz.underlying3,h]
theorem eq4 (a0 a1 a2 a3 b0 b1 b2 b3:Int) (w:World):(Op.equalIn 10000 25 (.agg #[.int .i64 a0,.int .i64 a1,.int .i64 a2,.int .i64 a3]) (.agg #[.int .i64 b0,.int .i64 b1,.int .i64 b2,.int .i64 b3])).run Tryz.prog w =
    .ok (decide (a0=b0∧a1=b1∧a2=b2∧a3=b3)) w:=by
  have e3:∀ a b w,(Op.equalIn 9999 3 (.int .i64 a) (.int .i64 b)).run Tryz.prog w=.ok (a == b) w:=fun a b w=>run_equalIn_int w 9998 3 .i64 .i64 a b Tryz.underlying3
  rw [show (10000:Nat)=9999+1 from rfl,Op.equalIn]
  simp only [Sem.run_bind,run_underlying Tryz.underlying25,Result.andThen_ok,size3,Std.Legacy.Range.forIn_eq_forIn_range',Std.Legacy.Range.size,Nat.sub_zero,Nat.add_sub_cancel,Nat.div_one]
  have pa0:∀ w,(part 3 #[.int .i64 a0,.int .i64 a1,.int .i64 a2,.int .i64 a3] (0*1)).run Tryz.prog w=.ok (.int .i64 a0) w:=fun w=>part3 _ _ _ w rfl
  have pa1:∀ w,(part 3 #[.int .i64 a0,.int .i64 a1,.int .i64 a2,.int .i64 a3] (1*1)).run Tryz.prog w=.ok (.int .i64 a1) w:=fun w=>part3 _ _ _ w rfl
  have pa2:∀ w,(part 3 #[.int .i64 a0,.int .i64 a1,.int .i64 a2,.int .i64 a3] (2*1)).run Tryz.prog w=.ok (.int .i64 a2) w:=fun w=>part3 _ _ _ w rfl
  have pa3:∀ w,(part 3 #[.int .i64 a0,.int .i64 a1,.int .i64 a2,.int .i64 a3] (3*1)).run Tryz.prog w=.ok (.int .i64 a3) w:=fun w=>part3 _ _ _ w rfl
  have pb0:∀ w,(part 3 #[.int .i64 b0,.int .i64 b1,.int .i64 b2,.int .i64 b3] (0*1)).run Tryz.prog w=.ok (.int .i64 b0) w:=fun w=>part3 _ _ _ w rfl
  have pb1:∀ w,(part 3 #[.int .i64 b0,.int .i64 b1,.int .i64 b2,.int .i64 b3] (1*1)).run Tryz.prog w=.ok (.int .i64 b1) w:=fun w=>part3 _ _ _ w rfl
  have pb2:∀ w,(part 3 #[.int .i64 b0,.int .i64 b1,.int .i64 b2,.int .i64 b3] (2*1)).run Tryz.prog w=.ok (.int .i64 b2) w:=fun w=>part3 _ _ _ w rfl
  have pb3:∀ w,(part 3 #[.int .i64 b0,.int .i64 b1,.int .i64 b2,.int .i64 b3] (3*1)).run Tryz.prog w=.ok (.int .i64 b3) w:=fun w=>part3 _ _ _ w rfl
  rw [show List.range' 0 4=[0,1,2,3] from rfl]
  have hr:decide (a0=b0∧a1=b1∧a2=b2∧a3=b3)=(a0 == b0&&(a1 == b1&&(a2 == b2&&a3 == b3))):=by
    simp only [Bool.decide_and]; rfl
  rw [hr]
  simp only [List.forIn_cons,List.forIn_nil,Sem.run_bind,pa0,pb0,Result.andThen_ok,e3]
  generalize (a0 == b0)=c0
  cases c0
  · rfl
  · simp only [Bool.not_true,Bool.false_eq_true,if_false,Sem.run_pure,Result.andThen_ok,Sem.run_bind,pa1,pb1,e3,Bool.true_and]
    generalize (a1 == b1)=c1
    cases c1
    · rfl
    · simp only [Bool.not_true,Bool.false_eq_true,if_false,Sem.run_pure,Result.andThen_ok,Sem.run_bind,pa2,pb2,e3,Bool.true_and]
      generalize (a2 == b2)=c2
      cases c2
      · rfl
      · simp only [Bool.not_true,Bool.false_eq_true,if_false,Sem.run_pure,Result.andThen_ok,Sem.run_bind,pa3,pb3,e3,Bool.true_and]
        generalize (a3 == b3)=c3
        cases c3
        · rfl
        · rfl
def PRel (p:Pt) (pc:Array Value) (r:Int) (w:World) (k:Nat) (wr:World):Prop :=
  (k=0∧wr=((((w.alloc (.cells pc 28)).alloc (.cells #[.int .i64 p.cls,.int .i64 p.t0,.int .i64 p.t1,.int .i64 p.t2,.int .i64 p.t3,.int .i64 p.n0,.int .i64 p.n1,.int .i64 p.n2,.int .i64 p.n3,.int .i64 p.by_.rule,.int .i64 p.by_.src,.int .i64 p.by_.seq] 51)).alloc (.cells #[.int .i64 0,.int .i64 0,.int .i64 0,.int .i64 0,.int .i64 0,.int .i64 0,.int .i64 0,.int .i64 0,.int .i64 0,.int .i64 0,.int .i64 0,.int .i64 0] 51)).alloc (.cells #[.int .i64 p.n0,.int .i64 p.n1,.int .i64 p.n2,.int .i64 p.n3] 25))) ∨
  (k=1∧wr=((((w.alloc (.cells pc 28)).alloc (.cells #[.int .i64 p.cls,.int .i64 p.t0,.int .i64 p.t1,.int .i64 p.t2,.int .i64 p.t3,.int .i64 (toward p.n0 p.t0 r),.int .i64 p.n1,.int .i64 p.n2,.int .i64 p.n3,.int .i64 p.by_.rule,.int .i64 p.by_.src,.int .i64 p.by_.seq] 51)).alloc (.cells #[.int .i64 0,.int .i64 0,.int .i64 0,.int .i64 0,.int .i64 0,.int .i64 0,.int .i64 0,.int .i64 0,.int .i64 0,.int .i64 0,.int .i64 0,.int .i64 0] 51)).alloc (.cells #[.int .i64 p.n0,.int .i64 p.n1,.int .i64 p.n2,.int .i64 p.n3] 25)).drew) ∨
  (k=2∧wr=((((w.alloc (.cells pc 28)).alloc (.cells #[.int .i64 p.cls,.int .i64 p.t0,.int .i64 p.t1,.int .i64 p.t2,.int .i64 p.t3,.int .i64 (toward p.n0 p.t0 r),.int .i64 (toward p.n1 p.t1 r),.int .i64 p.n2,.int .i64 p.n3,.int .i64 p.by_.rule,.int .i64 p.by_.src,.int .i64 p.by_.seq] 51)).alloc (.cells #[.int .i64 0,.int .i64 0,.int .i64 0,.int .i64 0,.int .i64 0,.int .i64 0,.int .i64 0,.int .i64 0,.int .i64 0,.int .i64 0,.int .i64 0,.int .i64 0] 51)).alloc (.cells #[.int .i64 p.n0,.int .i64 p.n1,.int .i64 p.n2,.int .i64 p.n3] 25)).drew.drew) ∨
  (k=3∧wr=((((w.alloc (.cells pc 28)).alloc (.cells #[.int .i64 p.cls,.int .i64 p.t0,.int .i64 p.t1,.int .i64 p.t2,.int .i64 p.t3,.int .i64 (toward p.n0 p.t0 r),.int .i64 (toward p.n1 p.t1 r),.int .i64 (toward p.n2 p.t2 r),.int .i64 p.n3,.int .i64 p.by_.rule,.int .i64 p.by_.src,.int .i64 p.by_.seq] 51)).alloc (.cells #[.int .i64 0,.int .i64 0,.int .i64 0,.int .i64 0,.int .i64 0,.int .i64 0,.int .i64 0,.int .i64 0,.int .i64 0,.int .i64 0,.int .i64 0,.int .i64 0] 51)).alloc (.cells #[.int .i64 p.n0,.int .i64 p.n1,.int .i64 p.n2,.int .i64 p.n3] 25)).drew.drew.drew) ∨
  (k=4∧wr=((((w.alloc (.cells pc 28)).alloc (.cells #[.int .i64 p.cls,.int .i64 p.t0,.int .i64 p.t1,.int .i64 p.t2,.int .i64 p.t3,.int .i64 (toward p.n0 p.t0 r),.int .i64 (toward p.n1 p.t1 r),.int .i64 (toward p.n2 p.t2 r),.int .i64 (toward p.n3 p.t3 r),.int .i64 p.by_.rule,.int .i64 p.by_.src,.int .i64 p.by_.seq] 51)).alloc (.cells #[.int .i64 0,.int .i64 0,.int .i64 0,.int .i64 0,.int .i64 0,.int .i64 0,.int .i64 0,.int .i64 0,.int .i64 0,.int .i64 0,.int .i64 0,.int .i64 0] 51)).alloc (.cells #[.int .i64 p.n0,.int .i64 p.n1,.int .i64 p.n2,.int .i64 p.n3] 25)).drew.drew.drew.drew)
set_option maxHeartbeats 4000000 in
theorem pstep_any (p:Pt) (pc:Array Value) (w:World) (hp:PolOk pc) (h1:1≤pI pc 54) (h2:pI pc 54≤1000) (hb0:-1000≤p.t0∧p.t0≤1000∧-1000≤p.n0∧p.n0≤1000) (hb1:-1000≤p.t1∧p.t1≤1000∧-1000≤p.n1∧p.n1≤1000)
    (hb2:-1000≤p.t2∧p.t2≤1000∧-1000≤p.n2∧p.n2≤1000) (hb3:-1000≤p.t3∧p.t3≤1000∧-1000≤p.n3∧p.n3≤1000) :
    Calls Tryz.prog 90 #[.agg pc,.agg #[.int .i64 p.cls,.int .i64 p.t0,.int .i64 p.t1,.int .i64 p.t2,.int .i64 p.t3,.int .i64 p.n0,.int .i64 p.n1,.int .i64 p.n2,.int .i64 p.n3,.int .i64 p.by_.rule,.int .i64 p.by_.src,.int .i64 p.by_.seq]] w fun e w'=>e=.returned (.agg #[.int .i64 (p.step (pI pc 54)).cls,.int .i64 (p.step (pI pc 54)).t0,.int .i64 (p.step (pI pc 54)).t1,.int .i64 (p.step (pI pc 54)).t2,.int .i64 (p.step (pI pc 54)).t3,.int .i64 (p.step (pI pc 54)).n0,.int .i64 (p.step (pI pc 54)).n1,.int .i64 (p.step (pI pc 54)).n2,.int .i64 (p.step (pI pc 54)).n3,.int .i64 (p.step (pI pc 54)).by_.rule,.int .i64 (p.step (pI pc 54)).by_.src,.int .i64 (p.step (pI pc 54)).by_.seq])∧Below w.heap.size w w':=by
  have p1:=hp.at_ 54 (by omega) (by omega)
  obtain ⟨r,hr⟩:∃ r,pI pc 54=r:=⟨_,rfl⟩
  rw [hr] at p1 h1 h2
  have i0:∀ w,(Instr.index 25 (.agg #[.int .i64 p.t0,.int .i64 p.t1,.int .i64 p.t2,.int .i64 p.t3]) (.int .i64 0)).run Tryz.prog w=.ok (.int .i64 p.t0) w:=fun _=>by kernel_rfl
  have i1:∀ w,(Instr.index 25 (.agg #[.int .i64 p.t0,.int .i64 p.t1,.int .i64 p.t2,.int .i64 p.t3]) (.int .i64 1)).run Tryz.prog w=.ok (.int .i64 p.t1) w:=fun _=>by kernel_rfl
  have i2:∀ w,(Instr.index 25 (.agg #[.int .i64 p.t0,.int .i64 p.t1,.int .i64 p.t2,.int .i64 p.t3]) (.int .i64 2)).run Tryz.prog w=.ok (.int .i64 p.t2) w:=fun _=>by kernel_rfl
  have i3:∀ w,(Instr.index 25 (.agg #[.int .i64 p.t0,.int .i64 p.t1,.int .i64 p.t2,.int .i64 p.t3]) (.int .i64 3)).run Tryz.prog w=.ok (.int .i64 p.t3) w:=fun _=>by kernel_rfl
  have HR:=Lib.hid hr
  have HT0:=Lib.hid (fun w=>toward_any p.n0 p.t0 r w h1 (by omega) (by omega) (by omega) (by omega) (by omega))
  have HT1:=Lib.hid (fun w=>toward_any p.n1 p.t1 r w h1 (by omega) (by omega) (by omega) (by omega) (by omega))
  have HT2:=Lib.hid (fun w=>toward_any p.n2 p.t2 r w h1 (by omega) (by omega) (by omega) (by omega) (by omega))
  have HT3:=Lib.hid (fun w=>toward_any p.n3 p.t3 r w h1 (by omega) (by omega) (by omega) (by omega) (by omega))
  have hE:=eq4
  clear hp hr hb0 hb1 hb2 hb3
  go_enter Tryz.func90,Tryz.ntmps90
  go_wp2
  go_loopw [12] (fun u wr=>∃ k:Nat,k≤4∧u=.int .i64 k∧PRel p pc r w k wr) (fun u _=>4 - (intOf u).toNat)
  case atStart=>exact ⟨0,by omega,rfl,.inl ⟨rfl,rfl⟩⟩
  case round =>
    obtain ⟨k,hk,rfl,hw⟩:=hrel
    rcases hw with ⟨rfl,rfl⟩ | ⟨rfl,rfl⟩ | ⟨rfl,rfl⟩ | ⟨rfl,rfl⟩ | ⟨rfl,rfl⟩
    · go_wp2
      go_region_with (go_at_call 135; (with_reducible refine (HT0.out _).mono ?_); rintro e w' ⟨rfl,rfl⟩)
      all_goals
        go_wp2
        go_roundw
        case rel=>exact ⟨1,by omega,rfl,.inr (.inl ⟨rfl,rfl⟩)⟩
        case measure=>simp [intOf]
    · go_wp2
      go_region_with (go_at_call 135; (with_reducible refine (HT1.out _).mono ?_); rintro e w' ⟨rfl,rfl⟩)
      all_goals
        go_wp2
        go_roundw
        case rel=>exact ⟨2,by omega,rfl,.inr (.inr (.inl ⟨rfl,rfl⟩))⟩
        case measure=>simp [intOf]
    · go_wp2
      go_region_with (go_at_call 135; (with_reducible refine (HT2.out _).mono ?_); rintro e w' ⟨rfl,rfl⟩)
      all_goals
        go_wp2
        go_roundw
        case rel=>exact ⟨3,by omega,rfl,.inr (.inr (.inr (.inl ⟨rfl,rfl⟩)))⟩
        case measure=>simp [intOf]
    · go_wp2
      go_region_with (go_at_call 135; (with_reducible refine (HT3.out _).mono ?_); rintro e w' ⟨rfl,rfl⟩)
      all_goals
        go_wp2
        go_roundw
        case rel=>exact ⟨4,by omega,rfl,.inr (.inr (.inr (.inr ⟨rfl,rfl⟩)))⟩
        case measure=>simp [intOf]
    · by_cases hq:(toward p.n0 p.t0 r)=p.n0∧(toward p.n1 p.t1 r)=p.n1∧(toward p.n2 p.t2 r)=p.n2∧(toward p.n3 p.t3 r)=p.n3
      · have hd:decide ((toward p.n0 p.t0 r)=p.n0∧(toward p.n1 p.t1 r)=p.n1∧(toward p.n2 p.t2 r)=p.n2∧(toward p.n3 p.t3 r)=p.n3)=true:=decide_eq_true hq
        have HS:=Lib.hid (show p.step r=⟨p.cls,p.t0,p.t1,p.t2,p.t3,toward p.n0 p.t0 r,toward p.n1 p.t1 r,toward p.n2 p.t2 r,toward p.n3 p.t3 r,p.by_⟩ by unfold Pt.step; rw [if_pos hq])
        clear hq
        go_wp2
        exact bodyPost_ret (v:=.agg #[.int .i64 p.cls,.int .i64 p.t0,.int .i64 p.t1,.int .i64 p.t2,.int .i64 p.t3,.int .i64 (toward p.n0 p.t0 r),.int .i64 (toward p.n1 p.t1 r),.int .i64 (toward p.n2 p.t2 r),.int .i64 (toward p.n3 p.t3 r),.int .i64 p.by_.rule,.int .i64 p.by_.src,.int .i64 p.by_.seq]) (by simp [results,Tryz.results90,go_sem]) rfl ⟨by rw [HR.out,HS.out],by (repeat (first | (with_reducible assumption) | (with_reducible refine below_set ?_ _ _ (by simp)) | (with_reducible refine below_al ?_ _) | (with_reducible refine below_dr ?_) | (with_reducible exact Below.refl _ _) | (with_reducible refine bel_call ?_ (by assumption))))⟩
      · have hd:decide ((toward p.n0 p.t0 r)=p.n0∧(toward p.n1 p.t1 r)=p.n1∧(toward p.n2 p.t2 r)=p.n2∧(toward p.n3 p.t3 r)=p.n3)=false:=decide_eq_false hq
        have HS:=Lib.hid (show p.step r=⟨p.cls,p.t0,p.t1,p.t2,p.t3,toward p.n0 p.t0 r,toward p.n1 p.t1 r,toward p.n2 p.t2 r,toward p.n3 p.t3 r,{ p.by_ with rule:=4 }⟩ by unfold Pt.step; rw [if_neg hq])
        clear hq
        go_wp2
        exact bodyPost_ret (v:=.agg #[.int .i64 p.cls,.int .i64 p.t0,.int .i64 p.t1,.int .i64 p.t2,.int .i64 p.t3,.int .i64 (toward p.n0 p.t0 r),.int .i64 (toward p.n1 p.t1 r),.int .i64 (toward p.n2 p.t2 r),.int .i64 (toward p.n3 p.t3 r),.int .i64 4,.int .i64 p.by_.src,.int .i64 p.by_.seq]) (by simp [results,Tryz.results90,go_sem]) rfl ⟨by rw [HR.out,HS.out],by (repeat (first | (with_reducible assumption) | (with_reducible refine below_set ?_ _ _ (by simp)) | (with_reducible refine below_al ?_ _) | (with_reducible refine below_dr ?_) | (with_reducible exact Below.refl _ _) | (with_reducible refine bel_call ?_ (by assumption))))⟩
end
section
namespace SE
def mostOf (pc:Array Value):Int:=max (pI pc 51) (max (pI pc 52) (pI pc 53))
structure PolFit (pc:Array Value):Prop where
  ok:PolOk pc
  sets:PolSets pc
  most:∀ c,c<4→0≤pI pc (50+c)∧pI pc (50+c)≤1000
  rate:1≤pI pc 54∧pI pc 54≤1000
  perm:∀ s:Nat,s<5→∃ i,i<5∧pI pc i=s
def i64 (z:Int):Value:=.int .i64 z
def UFc (pc:Array Value) (k:Nat) (vs:List Value):Prop :=
  match k with
  | 0=>∃ z,vs=[i64 z]∧-mostOf pc≤z∧z≤mostOf pc
  | 2=>vs=pc.toList
  | 3=>∃ f i r,vs=[i64 f,i64 i,i64 r]∧(f=0∨takes pc i r=true)
  | 4=>∃ i r,vs=[i64 i,i64 r]∧takes pc i r=true
  | 5=>∃ s r,vs=[i64 s,i64 r]∧r=rank pc s
  | 6=>∃ a b,vs=[i64 a,i64 b]∧rank pc a<rank pc b
  | 7=>∃ a b,vs=[i64 a,i64 b]∧a≤b
  | 8=>∃ h a b c,vs=[i64 h,i64 a,i64 b,i64 c]∧(h=1→a=0)∧(h=2→b=0)∧(h=3→c=0)
  | 9=>∃ o h a b c,vs=[i64 o,i64 h,i64 a,i64 b,i64 c]∧o≠0∧(o=1→a=1∧h≠1)∧(o=2→b=1∧h≠2)∧(o=3→c=1∧h≠3)
  | 10=>∃ a b c m,vs=[i64 a,i64 b,i64 c,i64 m]∧a+b+c≤m
  | 12=>∃ e f r r0,vs=[i64 e,i64 f,i64 r,i64 r0]∧(e=1∨f=0∨r=r0)
  | _=>False
structure Rc where
  kind:Int
  src:Int
  seq:Int
  epoch:Int
  code:Int
  how:Int
def Rc.cells (r:Rc):List Value:=[i64 r.kind,i64 r.src,i64 r.seq,i64 r.epoch,i64 r.code,i64 r.how]
def rcCells:List Rc→List Value
  | []=>[]
  | r::l=>r.cells++rcCells l
structure Fd where
  on:Int×Int×Int
  wt:Int×Int×Int
  en:Int×Int×Int
def put3 (p:Int×Int×Int) (s v:Int):Int×Int×Int :=
  if s=1 then (v,p.2.1,p.2.2) else if s=2 then (p.1,v,p.2.2) else if s=3 then (p.1,p.2.1,v) else p
def Fd.step (d:Fd) (r:Rc):Fd :=
  if r.kind=3 then { d with on:=put3 d.on r.src 1,en:=put3 d.en r.src 1 }
  else if r.kind=4∨r.kind=5 then { d with on:=put3 d.on r.src 0,wt:=put3 d.wt r.src 0 }
  else if r.kind=8 then { d with wt:=put3 d.wt r.src 0 }
  else if r.kind=10 then { d with wt:=put3 d.wt r.src 1 }
  else d
def Fd.nums (d:Fd):List Value:=[i64 d.on.1,i64 d.on.2.1,i64 d.on.2.2,i64 d.wt.1,i64 d.wt.2.1,i64 d.wt.2.2,i64 d.en.1,i64 d.en.2.1,i64 d.en.2.2]
def RecsOk (vs us:List Value):Prop :=
  ∃ (a b c x y z:Int) (rs:List Rc),(∀ r∈rs,0≤r.src∧r.src≤4)∧us=rcCells rs ∧
    vs=[i64 a,i64 b,i64 c,i64 x,i64 y,i64 z]++(rs.foldl Fd.step ⟨(a,b,c),(x,y,z),(0,0,0)⟩).nums
structure On where
  src:Int
  age:Int
  most:Int
  came:Int
def On.rg (o:On):Prop:=(-9223372036854775808≤o.age∧o.age≤9223372036854775807)∧(-9223372036854775808≤o.most∧o.most≤9223372036854775807)∧(0≤o.came∧o.came≤18446744073709551615)
def onCells (pc:Array Value):List On→List Value
  | []=>[]
  | o::l=>[i64 o.src,i64 (rank pc o.src),i64 o.age,i64 o.most,.int .u64 o.came]++onCells pc l
def bitOf (l:List On) (s:Int):Int:=if s∈l.map On.src then 1 else 0
def LineOk (pc:Array Value) (vs us:List Value):Prop :=
  ∃ (l:List On) (m:Int),us=onCells pc l∧(l.map On.src).Nodup∧(∀ o∈l,(1≤o.src∧o.src≤3)∧o.rg)∧(l.length:Int)≤m ∧
    vs=[i64 (bitOf l 1),i64 (bitOf l 2),i64 (bitOf l 3),i64 m]
def SentOk (us:List Value):Prop:=∀ u∈us,u.oneCell'=true
def RPc (pc:Array Value) (nm:Nat) (vs us:List Value):Prop :=
  match nm with
  | 1=>LineOk pc vs us
  | 2=>RecsOk vs us
  | 3=>vs=[]∧SentOk us
  | _=>False
noncomputable def Xc (pc:Array Value):Px:=⟨Tryz.prog,TC,UFc pc,RPc pc⟩
variable {pc:Array Value} {own0:Nat→Prop} {w0 w:World} {E:Env} {st:SE.St}
def clV:SV→Bool
  | .int _ (.r _ _) | .tt | .ff | .bool=>true
  | _=>false
def clL:List SV→Bool
  | []=>true
  | v::l=>clV v&&clL l
theorem clV_ok {E E':Env} {x:SV} {v:Value} (h:clV x=true) (hr:R E x v):R E' x v:=by
  unfold clV at h
  split at h
  · simp only [R,SIok] at hr ⊢; exact hr
  · simp only [R] at hr ⊢; exact hr
  · simp only [R] at hr ⊢; exact hr
  · simp only [R] at hr ⊢; exact hr
  · cases h
theorem clL_ok {E E':Env}:∀ {l:List SV} {vs:List Value},clL l=true→RL E l vs→RL E' l vs
  | [],vs,h,hr=>by rw [RL_nil.1 hr]; simp [RL]
  | x::l,vs,h,hr=>by
    simp only [clL,Bool.and_eq_true] at h
    simp only [RL] at hr ⊢
    obtain ⟨v,vs',e,h1,h2⟩:=hr
    exact ⟨v,vs',e,clV_ok h.1 h1,clL_ok h.2 h2⟩
theorem glT_cl:∀ g cs,glT g=some cs→clL cs=true:=by
  intro g cs h
  simp only [glT,cond_eq_ite] at h
  split at h
  · cases h; rfl
  · split at h
    · cases h; rfl
    · cases h
theorem glc_ok:∀ gg cs,(Xc pc).T.gl gg=some cs→∀ E E' vs,RL E cs vs→RL E' cs vs :=
  fun gg cs h E E' vs hr=>clL_ok (glT_cl gg cs h) hr
theorem allI_ok {E:Env}:∀ {l:List SV} {vs:List Value},allI l=true→RL E l vs→∃ zs:List Int,vs=zs.map i64
  | [],vs,h,hr=>⟨[],by rw [RL_nil.1 hr]; rfl⟩
  | x::l,[],h,hr=>by simp [RL] at hr
  | x :: l,v::vs,h,hr=>by
    simp only [allI,Bool.and_eq_true] at h
    obtain ⟨zs,rfl⟩:=allI_ok h.2 (RL_cons.1 hr).2
    have h1:=h.1
    unfold isI at h1
    split at h1
    · have:=(RL_cons.1 hr).1
      simp only [R] at this
      obtain ⟨z,_,rfl⟩:=this
      exact ⟨z::zs,rfl⟩
    · cases h1
theorem exI_two {E:Env} {x:SV} {u v:Value} (h:exI x=true) (hu:R E x u) (hv:R E x v):∃ z,u=i64 z∧v=i64 z:=by
  unfold exI at h
  split at h
  · simp only [R,SIok] at hu hv
    obtain ⟨a,ha,rfl⟩:=hu
    obtain ⟨b,hb,rfl⟩:=hv
    rw [ha] at hb
    cases hb
    exact ⟨a,rfl,rfl⟩
  · simp only [decide_eq_true_eq] at h
    simp only [R,SIok] at hu hv
    obtain ⟨a,ha,rfl⟩:=hu
    obtain ⟨b,hb,rfl⟩:=hv
    have:a=b:=by omega
    subst this
    exact ⟨a,rfl,rfl⟩
  · cases h
theorem emp_ok:∀ nm args,(Xc pc).T.emp nm args=true→∀ E vs,RL E args vs→(Xc pc).RP nm vs []:=by
  intro nm args h E vs hr
  simp only [Xc,TC,empT,cond_eq_ite] at h
  split at h
  · rename_i h3
    have:=nbeq h3
    subst this
    split at h
    · simp only [RL] at hr
      exact ⟨hr,fun u hu=>by cases hu⟩
    · cases h
  · split at h
    · rename_i h2
      have:=nbeq h2
      subst this
      split at h
      · rename_i a b c d e f g h' i j k l m n o
        simp only [Bool.and_eq_true] at h
        obtain ⟨h0,h1,h2⟩:=h
        have e1:=SV.beqL_eq _ _ h1
        have e2:=SV.beqL_eq _ _ h2
        simp only [List.cons.injEq,and_true] at e1 e2
        obtain ⟨rfl,rfl,rfl,rfl,rfl,rfl⟩:=e1
        obtain ⟨rfl,rfl,rfl⟩:=e2
        have hlen:=RL_length hr
        simp only [List.length_cons,List.length_nil] at hlen
        match vs,hlen with
        | [a1,b1,c1,d1,f1,g1,a2,b2,c2,d2,f2,g2,x,y,z],_ =>
          simp only [RL_cons] at hr
          obtain ⟨p1,p2,p3,p4,p5,p6,q1,q2,q3,q4,q5,q6,r1,r2,r3,_⟩:=hr
          simp only [allEx,Bool.and_eq_true] at h0
          obtain ⟨x1,x2,x3,x4,x5,x6,_⟩:=h0
          obtain ⟨z1,rfl,rfl⟩:=exI_two x1 p1 q1
          obtain ⟨z2,rfl,rfl⟩:=exI_two x2 p2 q2
          obtain ⟨z3,rfl,rfl⟩:=exI_two x3 p3 q3
          obtain ⟨z4,rfl,rfl⟩:=exI_two x4 p4 q4
          obtain ⟨z5,rfl,rfl⟩:=exI_two x5 p5 q5
          obtain ⟨z6,rfl,rfl⟩:=exI_two x6 p6 q6
          have zero:∀ {v:Value},R E (N 0) v→v=i64 0:=fun {v} h=>by
            simp only [N,R,SIok] at h
            obtain ⟨z,hz,rfl⟩:=h
            have:z=0:=by omega
            subst this
            rfl
          rw [zero r1,zero r2,zero r3]
          exact ⟨z1,z2,z3,z4,z5,z6,[],by simp,rfl,rfl⟩
      · cases h
    · cases h
theorem rcCells_append:∀ (l m:List Rc),rcCells (l++m)=rcCells l++rcCells m
  | [],m=>rfl
  | r::l,m=>by simp only [List.cons_append,rcCells,rcCells_append l m,List.append_assoc]
theorem srcOf_ok {E:Env} {v:SV} {u:Value} {n:Int} (h:srcOf v=some n) (hr:R E v u):u=i64 n:=by
  unfold srcOf at h
  split at h
  · simp only [cond_eq_ite,decide_eq_true_eq] at h
    split at h
    · cases h
      simp only [R,SIok] at hr
      obtain ⟨z,hz,rfl⟩:=hr
      have:z=n:=by omega
      subst this
      rfl
    · cases h
  · cases h
theorem inSrc_ok (g:G (Xc pc) own0 w0 E st w) {v:SV} {z:Int} (h:inSrc st v=true) (hr:R E v (i64 z)):0≤z∧z≤4:=by
  unfold inSrc at h
  split at h
  · rename_i k l hh hrng
    simp only [Bool.and_eq_true,decide_eq_true_eq] at h
    obtain ⟨z',hz,h1,h2⟩:=rng_ok g hrng hr
    cases hz
    omega
  · cases h
theorem RN (E:Env) (n:Int):R E (N n) (i64 n):=by
  simp only [N,R,SIok]
  exact ⟨n,⟨Int.le_refl _,Int.le_refl _⟩,rfl⟩
theorem put3_no {s:Int} (h:¬ (1≤s∧s≤3)) (p:Int×Int×Int) (v:Int):put3 p s v=p:=by
  unfold put3
  rw [if_neg (by omega),if_neg (by omega),if_neg (by omega)]
theorem putBit_no {s:Int} (h:¬ (1≤s∧s≤3)) (l:List SV) (b:Nat) (v:SV):putBit l b s v=l:=by
  unfold putBit
  have:(decide (1≤s)&&decide (s≤3))=false:=by
    cases hb:(decide (1≤s)&&decide (s≤3)) with
    | false=>rfl
    | true=>simp at hb; exact absurd hb h
  rw [this]
  rfl
theorem appc:AppOk (Xc pc):=by
  intro nm args new st args' h own0 w0 E w g vs us ns hvs hns hrp
  simp only [Xc,TC,appT,cond_eq_ite] at h
  split at h
  · rename_i h2
    have:=nbeq h2
    subst this
    obtain ⟨a,b,c,x,y,z,rs,hrs,rfl,rfl⟩:=hrp
    generalize hd:rs.foldl Fd.step ⟨(a,b,c),(x,y,z),(0,0,0)⟩=d at hvs
    unfold appRec at h
    split at h
    · rename_i k s e1 e2 e3 e4
      split at h
      · rename_i kz hk
        simp only [cond_eq_ite] at h
        split at h
        · rename_i hin
          simp only [Bool.and_eq_true] at hin
          obtain ⟨zs,rfl⟩:=allI_ok hin.2 hns
          have hlen:=RL_length hns
          simp only [List.length_map,List.length_cons,List.length_nil] at hlen
          match zs,hlen with
          | [k',s',q1,q2,q3,q4],_ =>
            simp only [List.map_cons,List.map_nil,RL_cons] at hns
            obtain ⟨hk',hs',_⟩:=hns
            have hkz:k'=kz:=by have:=srcOf_ok hk hk'; simpa [i64] using this
            subst hkz
            have hb:=inSrc_ok g hin.1 hs'
            have fin:∀ vs',RL E args' vs'→vs'=[i64 a,i64 b,i64 c,i64 x,i64 y,i64 z]++(d.step ⟨k',s',q1,q2,q3,q4⟩).nums →
                ∃ vs',RL E args' vs'∧RPc pc 2 vs' (rcCells rs++List.map i64 [k',s',q1,q2,q3,q4]):=fun vs' h1 h2 =>
              ⟨vs',h1,a,b,c,x,y,z,rs++[⟨k',s',q1,q2,q3,q4⟩],by
                intro r hr
                rcases List.mem_append.1 hr with hr | hr
                · exact hrs r hr
                · rw [List.mem_singleton.1 hr]; exact hb,by rw [rcCells_append]; rfl,by rw [h2,List.foldl_append,hd]; rfl⟩
            have hal:=RL_length hvs
            simp only [Fd.nums,List.length_append,List.length_cons,List.length_nil] at hal
            match args,hal with
            | [a0,a1,a2,a3,a4,a5,b0,b1,b2,c0,c1,c2,d0,d1,d2],_ =>
              simp only [Fd.nums,List.cons_append,List.nil_append,RL_cons] at hvs
              obtain ⟨p0,p1,p2,p3,p4,p5,q0,q1',q2',r0,r1,r2,s0,s1,s2,_⟩:=hvs
              split at h
              · rename_i hkk
                split at h
                · rename_i sz hsz
                  have hse:s'=sz:=by have:=srcOf_ok hsz hs'; simpa [i64] using this
                  subst hse
                  simp only [Option.some.injEq] at h
                  subst h
                  simp only [Bool.or_eq_true,decide_eq_true_eq] at hkk
                  by_cases hr3:1≤s'∧s'≤3
                  · have h3:s'=1∨s'=2∨s'=3:=by omega
                    rcases h3 with rfl | rfl | rfl <;> rcases hkk with rfl | rfl | rfl | rfl | rfl <;>
                      refine fin _ ?_ rfl <;>
                      simp [Fd.step,put3,putBit,setN,Fd.nums,RL_cons,RL_nil,RN,p0,p1,p2,p3,p4,p5,q0,q1',q2',r0,r1,r2,s0,s1,s2]
                  · rcases hkk with rfl | rfl | rfl | rfl | rfl <;>
                      refine fin _ ?_ rfl <;>
                      simp [Fd.step,put3_no hr3,putBit_no hr3,Fd.nums,RL_cons,RL_nil,p0,p1,p2,p3,p4,p5,q0,q1',q2',r0,r1,r2,s0,s1,s2]
                · cases h
              · rename_i hkk
                cases h
                simp only [Bool.or_eq_true,decide_eq_true_eq,not_or] at hkk
                refine fin _ ?_ rfl
                simp [Fd.step,hkk,Fd.nums,RL_cons,RL_nil,p0,p1,p2,p3,p4,p5,q0,q1',q2',r0,r1,r2,s0,s1,s2]
        · cases h
      · cases h
    · cases h
  · split at h
    · rename_i h3
      have:=nbeq h3
      subst this
      split at h
      · rename_i hac
        cases h
        refine ⟨vs,hvs,hrp.1,fun u hu=>?_⟩
        rcases List.mem_append.1 hu with hu | hu
        · exact hrp.2 u hu
        · exact allCell_one hns hac u hu
      · cases h
    · cases h
end SE
end
section
open Go.RowKit
theorem of_t1 (n:Nat) (w:World) (h:w.cell? ⟨n,3,none⟩=some (.bool true)):Calls Tryz.prog 55 #[.pointer (some ⟨n,0,none⟩),.int .i64 1] w fun e w'=>e=.returned (.pointer (some ⟨n,3,none⟩))∧w'=w:=by
  go_enter Tryz.func55,Tryz.ntmps55
  go_wp2
  go_ret
  exact ⟨rfl,rfl⟩
theorem of_f1 (n:Nat) (w:World) (h:w.cell? ⟨n,3,none⟩=some (.bool false)):Calls Tryz.prog 55 #[.pointer (some ⟨n,0,none⟩),.int .i64 1] w fun e w'=>e=.returned (.pointer none)∧w'=w:=by
  go_enter Tryz.func55,Tryz.ntmps55
  go_wp2
  go_ret
  exact ⟨rfl,rfl⟩
theorem on_1 (n:Nat) (f:Bool) (w:World) (h:w.cell? ⟨n,3,none⟩=some (.bool f)):Calls Tryz.prog 39 #[.pointer (some ⟨n,0,none⟩),.int .i64 1] w fun e w'=>e=.returned (.bool f)∧w'=w:=by
  cases f with
  | true =>
    have H:=Lib.hid (of_t1 n w h)
    go_enter Tryz.func39,Tryz.ntmps39
    go_wp2_with (go_at_call 55; (with_reducible refine H.out.mono ?_); rintro e' w2 ⟨rfl,h2⟩; cases h2)
    go_ret
    exact ⟨rfl,rfl⟩
  | false =>
    have H:=Lib.hid (of_f1 n w h)
    go_enter Tryz.func39,Tryz.ntmps39
    go_wp2_with (go_at_call 55; (with_reducible refine H.out.mono ?_); rintro e' w2 ⟨rfl,h2⟩; cases h2)
    go_ret
    exact ⟨rfl,rfl⟩
theorem role_1 (n:Nat) (f:Bool) (r:Int) (w:World) (h:w.cell? ⟨n,3,none⟩=some (.bool f)) (hr:w.cell? ⟨n,6,none⟩=some (.int .i64 r)):Calls Tryz.prog 40 #[.pointer (some ⟨n,0,none⟩),.int .i64 1] w fun e w'=>e=.returned (.int .i64 (if f then r else 0))∧w'=w:=by
  cases f with
  | true =>
    have H:=Lib.hid (of_t1 n w h)
    go_enter Tryz.func40,Tryz.ntmps40
    go_wp2_with (go_at_call 55; (with_reducible refine H.out.mono ?_); rintro e' w2 ⟨rfl,h2⟩; cases h2)
    go_ret
    exact ⟨rfl,rfl⟩
  | false =>
    have H:=Lib.hid (of_f1 n w h)
    go_enter Tryz.func40,Tryz.ntmps40
    go_wp2_with (go_at_call 55; (with_reducible refine H.out.mono ?_); rintro e' w2 ⟨rfl,h2⟩; cases h2)
    go_ret
    exact ⟨rfl,rfl⟩
theorem of_t2 (n:Nat) (w:World) (h:w.cell? ⟨n,42,none⟩=some (.bool true)):Calls Tryz.prog 55 #[.pointer (some ⟨n,0,none⟩),.int .i64 2] w fun e w'=>e=.returned (.pointer (some ⟨n,42,none⟩))∧w'=w:=by
  go_enter Tryz.func55,Tryz.ntmps55
  go_wp2
  go_ret
  exact ⟨rfl,rfl⟩
theorem of_f2 (n:Nat) (w:World) (h:w.cell? ⟨n,42,none⟩=some (.bool false)):Calls Tryz.prog 55 #[.pointer (some ⟨n,0,none⟩),.int .i64 2] w fun e w'=>e=.returned (.pointer none)∧w'=w:=by
  go_enter Tryz.func55,Tryz.ntmps55
  go_wp2
  go_ret
  exact ⟨rfl,rfl⟩
theorem on_2 (n:Nat) (f:Bool) (w:World) (h:w.cell? ⟨n,42,none⟩=some (.bool f)):Calls Tryz.prog 39 #[.pointer (some ⟨n,0,none⟩),.int .i64 2] w fun e w'=>e=.returned (.bool f)∧w'=w:=by
  cases f with
  | true =>
    have H:=Lib.hid (of_t2 n w h)
    go_enter Tryz.func39,Tryz.ntmps39
    go_wp2_with (go_at_call 55; (with_reducible refine H.out.mono ?_); rintro e' w2 ⟨rfl,h2⟩; cases h2)
    go_ret
    exact ⟨rfl,rfl⟩
  | false =>
    have H:=Lib.hid (of_f2 n w h)
    go_enter Tryz.func39,Tryz.ntmps39
    go_wp2_with (go_at_call 55; (with_reducible refine H.out.mono ?_); rintro e' w2 ⟨rfl,h2⟩; cases h2)
    go_ret
    exact ⟨rfl,rfl⟩
theorem role_2 (n:Nat) (f:Bool) (r:Int) (w:World) (h:w.cell? ⟨n,42,none⟩=some (.bool f)) (hr:w.cell? ⟨n,45,none⟩=some (.int .i64 r)):Calls Tryz.prog 40 #[.pointer (some ⟨n,0,none⟩),.int .i64 2] w fun e w'=>e=.returned (.int .i64 (if f then r else 0))∧w'=w:=by
  cases f with
  | true =>
    have H:=Lib.hid (of_t2 n w h)
    go_enter Tryz.func40,Tryz.ntmps40
    go_wp2_with (go_at_call 55; (with_reducible refine H.out.mono ?_); rintro e' w2 ⟨rfl,h2⟩; cases h2)
    go_ret
    exact ⟨rfl,rfl⟩
  | false =>
    have H:=Lib.hid (of_f2 n w h)
    go_enter Tryz.func40,Tryz.ntmps40
    go_wp2_with (go_at_call 55; (with_reducible refine H.out.mono ?_); rintro e' w2 ⟨rfl,h2⟩; cases h2)
    go_ret
    exact ⟨rfl,rfl⟩
theorem of_t3 (n:Nat) (w:World) (h:w.cell? ⟨n,81,none⟩=some (.bool true)):Calls Tryz.prog 55 #[.pointer (some ⟨n,0,none⟩),.int .i64 3] w fun e w'=>e=.returned (.pointer (some ⟨n,81,none⟩))∧w'=w:=by
  go_enter Tryz.func55,Tryz.ntmps55
  go_wp2
  go_ret
  exact ⟨rfl,rfl⟩
theorem of_f3 (n:Nat) (w:World) (h:w.cell? ⟨n,81,none⟩=some (.bool false)):Calls Tryz.prog 55 #[.pointer (some ⟨n,0,none⟩),.int .i64 3] w fun e w'=>e=.returned (.pointer none)∧w'=w:=by
  go_enter Tryz.func55,Tryz.ntmps55
  go_wp2
  go_ret
  exact ⟨rfl,rfl⟩
theorem on_3 (n:Nat) (f:Bool) (w:World) (h:w.cell? ⟨n,81,none⟩=some (.bool f)):Calls Tryz.prog 39 #[.pointer (some ⟨n,0,none⟩),.int .i64 3] w fun e w'=>e=.returned (.bool f)∧w'=w:=by
  cases f with
  | true =>
    have H:=Lib.hid (of_t3 n w h)
    go_enter Tryz.func39,Tryz.ntmps39
    go_wp2_with (go_at_call 55; (with_reducible refine H.out.mono ?_); rintro e' w2 ⟨rfl,h2⟩; cases h2)
    go_ret
    exact ⟨rfl,rfl⟩
  | false =>
    have H:=Lib.hid (of_f3 n w h)
    go_enter Tryz.func39,Tryz.ntmps39
    go_wp2_with (go_at_call 55; (with_reducible refine H.out.mono ?_); rintro e' w2 ⟨rfl,h2⟩; cases h2)
    go_ret
    exact ⟨rfl,rfl⟩
theorem role_3 (n:Nat) (f:Bool) (r:Int) (w:World) (h:w.cell? ⟨n,81,none⟩=some (.bool f)) (hr:w.cell? ⟨n,84,none⟩=some (.int .i64 r)):Calls Tryz.prog 40 #[.pointer (some ⟨n,0,none⟩),.int .i64 3] w fun e w'=>e=.returned (.int .i64 (if f then r else 0))∧w'=w:=by
  cases f with
  | true =>
    have H:=Lib.hid (of_t3 n w h)
    go_enter Tryz.func40,Tryz.ntmps40
    go_wp2_with (go_at_call 55; (with_reducible refine H.out.mono ?_); rintro e' w2 ⟨rfl,h2⟩; cases h2)
    go_ret
    exact ⟨rfl,rfl⟩
  | false =>
    have H:=Lib.hid (of_f3 n w h)
    go_enter Tryz.func40,Tryz.ntmps40
    go_wp2_with (go_at_call 55; (with_reducible refine H.out.mono ?_); rintro e' w2 ⟨rfl,h2⟩; cases h2)
    go_ret
    exact ⟨rfl,rfl⟩
theorem on_4 (n:Nat) (w:World):Calls Tryz.prog 39 #[.pointer (some ⟨n,0,none⟩),.int .i64 4] w fun e w'=>e=.returned (.bool true)∧w'=w:=by
  go_enter Tryz.func39,Tryz.ntmps39
  go_wp2
  go_ret
  exact ⟨rfl,rfl⟩
theorem on_0 (n:Nat) (f:Bool) (w:World) (h:w.cell? ⟨n,0,none⟩=some (.bool f)):Calls Tryz.prog 39 #[.pointer (some ⟨n,0,none⟩),.int .i64 0] w fun e w'=>e=.returned (.bool f)∧w'=w:=by
  go_enter Tryz.func39,Tryz.ntmps39
  go_wp2
  go_ret
  exact ⟨rfl,rfl⟩
theorem of_no (n:Nat) (s:Int) (w:World) (h:¬ (1≤s∧s≤3)):Calls Tryz.prog 55 #[.pointer (some ⟨n,0,none⟩),.int .i64 s] w fun e w'=>e=.returned (.pointer none)∧w'=w:=by
  by_cases h1:s<1
  · go_enter Tryz.func55,Tryz.ntmps55
    go_wp2
    go_ret
    exact ⟨rfl,rfl⟩
  · have h2:3<s:=by omega
    clear h
    go_enter Tryz.func55,Tryz.ntmps55
    go_wp2
    go_ret
    exact ⟨rfl,rfl⟩
theorem on_no (n:Nat) (s:Int) (w:World) (h:¬ (0≤s∧s≤4)):Calls Tryz.prog 39 #[.pointer (some ⟨n,0,none⟩),.int .i64 s] w fun e w'=>e=.returned (.bool false)∧w'=w:=by
  have H:=Lib.hid (of_no n s w (by omega))
  have h4:¬ s=4:=by omega
  have h0:¬ s=0:=by omega
  clear h
  go_enter Tryz.func39,Tryz.ntmps39
  go_wp2_with (go_at_call 55; (with_reducible refine H.out.mono ?_); rintro e' w2 ⟨rfl,h2⟩; cases h2)
  go_ret
  exact ⟨rfl,rfl⟩
theorem role_no (n:Nat) (s:Int) (w:World) (h:¬ (1≤s∧s≤3)):Calls Tryz.prog 40 #[.pointer (some ⟨n,0,none⟩),.int .i64 s] w fun e w'=>e=.returned (.int .i64 0)∧w'=w:=by
  have H:=Lib.hid (of_no n s w h)
  clear h
  go_enter Tryz.func40,Tryz.ntmps40
  go_wp2_with (go_at_call 55; (with_reducible refine H.out.mono ?_); rintro e' w2 ⟨rfl,h2⟩; cases h2)
  go_ret
  exact ⟨rfl,rfl⟩
end
section
namespace SE
variable {pc:Array Value} {own0:Nat→Prop} {w0 w:World} {E:Env} {st:SE.St}
theorem RL1 {E:Env} {a:SV} {vs:List Value} (h:RL E [a] vs):∃ x,vs=[x]∧R E a x:=by
  simp only [RL] at h
  obtain ⟨v,vs',rfl,h1,rfl⟩:=h
  exact ⟨v,rfl,h1⟩
theorem RL2 {E:Env} {a b:SV} {vs:List Value} (h:RL E [a,b] vs):∃ x y,vs=[x,y]∧R E a x∧R E b y:=by
  simp only [RL] at h
  obtain ⟨v,vs',rfl,h1,v2,vs2,rfl,h2,rfl⟩:=h
  exact ⟨v,v2,rfl,h1,h2⟩
theorem RL3 {E:Env} {a b c:SV} {vs:List Value} (h:RL E [a,b,c] vs):∃ x y z,vs=[x,y,z]∧R E a x∧R E b y∧R E c z:=by
  simp only [RL] at h
  obtain ⟨v,vs',rfl,h1,v2,vs2,rfl,h2,v3,vs3,rfl,h3,rfl⟩:=h
  exact ⟨v,v2,v3,rfl,h1,h2,h3⟩
theorem RL4 {E:Env} {a b c d:SV} {vs:List Value} (h:RL E [a,b,c,d] vs):∃ x y z u,vs=[x,y,z,u]∧R E a x∧R E b y∧R E c z∧R E d u:=by
  simp only [RL] at h
  obtain ⟨v,vs',rfl,h1,v2,vs2,rfl,h2,v3,vs3,rfl,h3,v4,vs4,rfl,h4,rfl⟩:=h
  exact ⟨v,v2,v3,v4,rfl,h1,h2,h3,h4⟩
theorem arr_of {vals:Array Value} {l:List Value} (h:vals.toList=l):vals=l.toArray:=by rw [← h]
theorem RU {E:Env} {lo hi z:Int} (h1:lo≤z) (h2:z≤hi):R E (U lo hi) (i64 z):=by
  simp only [U,R,SIok]
  exact ⟨z,⟨h1,h2⟩,rfl⟩
theorem pkc : PkOk (Xc pc) where
  fn:=fun g h=>by
    simp only [Xc,TC] at h
    have:=nbeq h
    subst this
    exact ⟨Tryz.f73,rfl⟩
  ok := fun g args st v hg h own0 w0 E w g' vals hr=>by
    simp only [Xc,TC] at hg h
    have:=nbeq hg
    subst this
    unfold pkSat at h
    split at h
    · rename_i n m
      obtain ⟨x,y,hxy,hx,hy⟩:=RL2 hr
      rw [arr_of hxy]
      split at h
      · rename_i nl nh ml mh e1 e2
        obtain ⟨a,rfl,a1,a2⟩:=rng_ok g' e1 hx
        obtain ⟨b,rfl,b1,b2⟩:=rng_ok g' e2 hy
        simp only [cond_eq_ite,Bool.and_eq_true,decide_eq_true_eq] at h
        split at h
        · rename_i hc
          have hrun:∀ w,Calls Tryz.prog 73 #[i64 a,i64 b] w (fun e w'=>e=.returned (i64 (sat a b))∧w'=w):=fun w =>
            (sat_any a b w (by omega) (by omega)).mono fun e w' he=>⟨he.1,he.2.symm⟩
          have hs:(a<b∧sat a b=a+1)∨(¬ a<b∧sat a b=b):=by
            unfold sat
            by_cases hab:a<b
            · exact .inl ⟨hab,if_pos hab⟩
            · exact .inr ⟨hab,if_neg hab⟩
          split at h
          · rename_i hlt
            cases h
            exact ⟨_,RU (by omega) (by omega),hrun⟩
          · cases h
            have:=mn_le (nl+1) ml
            exact ⟨_,RU (by omega) (by omega),hrun⟩
        · cases h
      · cases h
    · cases h
theorem tabOf_ok (g:G (Xc pc) own0 w0 E st w) {v:SV} {cs:List SV} {u:Value} (h:tabOf st v=some cs) (hr:R E v u) :
    ∃ n vs,u=.pointer (some ⟨n,0,none⟩)∧w.heap[n]?=some (.cells vs 145 (0,0))∧RL E cs vs.toList:=by
  unfold tabOf at h
  split at h
  · rename_i b
    simp only [R] at hr
    obtain ⟨n,hn,rfl⟩:=hr
    split at h
    · rename_i cs' hl
      cases h
      rcases g.heap b _ hl with ⟨h0,_⟩ | ⟨m,h1,h2,h3,vs,h4,h5⟩
      · cases h0
      · rw [hn] at h1
        cases h1
        exact ⟨n,vs,rfl,h4,h5⟩
    · rename_i cs' hl
      cases h
      rcases g.heap b _ hl with ⟨h0,_⟩ | ⟨m,h1,h2,h3,vs,h4,h5⟩
      · cases h0
      · rw [hn] at h1
        cases h1
        exact ⟨n,vs,rfl,h4,h5⟩
    · cases h
  · cases h
def flagIx (s:Int):Nat:=bif decide (s=0) then 0 else 39*s.toNat - 36
theorem flagAt_ok {E:Env} {cs:List SV} {vs:Array Value} {s:Int} {v:SV} (h:flagAt cs s=some v) (hr:RL E cs vs.toList):isB v=true∧∃ b,vs[flagIx s]?=some (.bool b)∧R E v (.bool b):=by
  unfold flagAt at h
  split at h
  · rename_i x hx
    simp only [cond_eq_ite] at h
    split at h
    · rename_i hb
      cases h
      obtain ⟨u,hu,hru⟩:=RL_nth hr hx
      obtain ⟨b,rfl⟩:=isB_ok hb hru
      exact ⟨hb,b,by simpa [flagIx,cond_eq_ite] using hu,hru⟩
    · cases h
  · cases h
theorem cellE {w w':World} {n j:Nat} {vs:Array Value} {e:Nat} {v:Value} (h:w.heap[n]?=some (.cells vs e (0,0))) (hx:Ext0 w w') (hv:vs[j]?=some v):w'.cell? ⟨n,j,none⟩=some v:=by
  rw [cell_at (hx.some h)]
  exact hv
theorem rkc : RkOk (Xc pc) where
  app:=appc
  fn:=fun g h=>by
    simp only [Xc,TC,Bool.or_eq_true] at h
    rcases h with h | h
    · have:=nbeq h
      subst this
      exact ⟨Tryz.f39,rfl⟩
    · have:=nbeq h
      subst this
      exact ⟨Tryz.f40,rfl⟩
  ok := fun g args st v hg h own0 w0 E w g' vals hr=>by
    simp only [Xc,TC,Bool.or_eq_true,cond_eq_ite] at hg h
    by_cases h39:Nat.beq g 39=true
    · rw [if_pos h39] at h
      have:=nbeq h39
      subst this
      unfold rkOn at h
      split at h
      · rename_i t s
        obtain ⟨x,y,hxy,hx,hy⟩:=RL2 hr
        rw [arr_of hxy]
        split at h
        · rename_i cs ht
          obtain ⟨n,vs,rfl,hn,hcs⟩:=tabOf_ok g' ht hx
          split at h
          · rename_i l hh hrng
            obtain ⟨z,rfl,z1,z2⟩:=rng_ok g' hrng hy
            simp only [cond_eq_ite,Bool.and_eq_true,decide_eq_true_eq] at h
            have flag:∀ s,0≤s→s≤3→∀ b,vs[flagIx s]?=some (.bool b)→∀ w',Ext0 w w'→Calls Tryz.prog 39 #[.pointer (some ⟨n,0,none⟩),i64 s] w' (fun e w''=>e=.returned (.bool b)∧w''=w'):=by
              intro s s1 s2 b hb w' hw'
              have h4:s=0∨s=1∨s=2∨s=3:=by omega
              rcases h4 with rfl | rfl | rfl | rfl
              · exact on_0 n b w' (cellE hn hw' hb)
              · exact on_1 n b w' (cellE hn hw' hb)
              · exact on_2 n b w' (cellE hn hw' hb)
              · exact on_3 n b w' (cellE hn hw' hb)
            split at h
            · rename_i hlh
              have:z=l:=by omega
              subst this
              split at h
              · rename_i h4
                subst h4
                cases h
                exact ⟨.bool true,by simp only [R],fun w' hw'=>on_4 n w'⟩
              · split at h
                · rename_i h4 h03
                  obtain ⟨hb,b,hb1,hb2⟩:=flagAt_ok h hcs
                  exact ⟨.bool b,hb2,flag z h03.1 h03.2 b hb1⟩
                · rename_i h4 h03
                  cases h
                  exact ⟨.bool false,by simp only [R],fun w' hw'=>on_no n z w' (by omega)⟩
            · split at h
              · rename_i f0 f1 f2 f3 e0 e1 e2 e3
                cases h
                obtain ⟨_,b0,hb0,_⟩:=flagAt_ok e0 hcs
                obtain ⟨_,b1,hb1,_⟩:=flagAt_ok e1 hcs
                obtain ⟨_,b2,hb2,_⟩:=flagAt_ok e2 hcs
                obtain ⟨_,b3,hb3,_⟩:=flagAt_ok e3 hcs
                have hz:z=0∨z=1∨z=2∨z=3∨z=4∨¬ (0≤z∧z≤4):=by omega
                rcases hz with rfl | rfl | rfl | rfl | rfl | hz
                · exact ⟨.bool b0,by simp only [R]; exact ⟨_,rfl⟩,flag 0 (by omega) (by omega) b0 hb0⟩
                · exact ⟨.bool b1,by simp only [R]; exact ⟨_,rfl⟩,flag 1 (by omega) (by omega) b1 hb1⟩
                · exact ⟨.bool b2,by simp only [R]; exact ⟨_,rfl⟩,flag 2 (by omega) (by omega) b2 hb2⟩
                · exact ⟨.bool b3,by simp only [R]; exact ⟨_,rfl⟩,flag 3 (by omega) (by omega) b3 hb3⟩
                · exact ⟨.bool true,by simp only [R]; exact ⟨_,rfl⟩,fun w' hw'=>on_4 n w'⟩
                · exact ⟨.bool false,by simp only [R]; exact ⟨_,rfl⟩,fun w' hw'=>on_no n z w' hz⟩
              · cases h
          · cases h
        · cases h
      · cases h
    · rw [if_neg h39] at h
      rcases hg with hg | hg
      · exact absurd hg h39
      have:=nbeq hg
      subst this
      unfold rkRole at h
      split at h
      · rename_i t s
        obtain ⟨x,y,hxy,hx,hy⟩:=RL2 hr
        rw [arr_of hxy]
        split at h
        · rename_i cs l ht hcst
          obtain ⟨n,vs,rfl,hn,hcs⟩:=tabOf_ok g' ht hx
          simp only [cond_eq_ite] at hcst
          split at hcst
          · rename_i his
            obtain ⟨k,hk⟩:=cst_ok g' hcst hy
            have hki:k=.i64:=by
              unfold isI at his
              split at his
              · simp only [R] at hy
                obtain ⟨z,_,e⟩:=hy
                rw [e] at hk
                cases hk
                rfl
              · cases his
            subst hki
            subst hk
            simp only [cond_eq_ite,Bool.and_eq_true,decide_eq_true_eq] at h
            split at h
            · rename_i h13
              split at h
              · rename_i f r hf hrr
                obtain ⟨hb,b,hb1,hb2⟩:=flagAt_ok hf hcs
                obtain ⟨u,hu,hru⟩:=RL_nth hcs hrr
                have hu':vs[39*l.toNat - 33]?=some u:=by simpa using hu
                have role:∀ z,u=i64 z→∀ w',Ext0 w w'→Calls Tryz.prog 40 #[.pointer (some ⟨n,0,none⟩),i64 l] w' (fun e w''=>e=.returned (i64 (if b then z else 0))∧w''=w'):=by
                  intro z hz w' hw'
                  subst hz
                  have h3:l=1∨l=2∨l=3:=by omega
                  rcases h3 with rfl | rfl | rfl
                  · exact role_1 n b z w' (cellE hn hw' hb1) (cellE hn hw' hu')
                  · exact role_2 n b z w' (cellE hn hw' hb1) (cellE hn hw' hu')
                  · exact role_3 n b z w' (cellE hn hw' hb1) (cellE hn hw' hu')
                split at h
                · rename_i hev
                  have hbt:b=true:=by have:=evalB_ok g' hev hb2; simpa using this
                  subst hbt
                  split at h
                  · rename_i xr
                    cases h
                    simp only [R] at hru
                    obtain ⟨z,hz,rfl⟩:=hru
                    exact ⟨i64 z,by simp only [R]; exact ⟨z,hz,rfl⟩,by have:=role z rfl; simp only [if_true] at this; exact this⟩
                  · cases h
                · rename_i hev
                  have hbt:b=false:=by have:=evalB_ok g' hev hb2; simpa using this
                  subst hbt
                  split at h
                  · rename_i hir
                    cases h
                    unfold isI at hir
                    split at hir
                    · simp only [R] at hru
                      obtain ⟨z,hz,rfl⟩:=hru
                      refine ⟨i64 0,RN _ _,?_⟩
                      have:=role z rfl
                      simp only [Bool.false_eq_true,if_false] at this
                      exact this
                    · cases hir
                  · cases h
                · split at h
                  · rename_i a c hrg
                    cases h
                    obtain ⟨z,rfl,z1,z2⟩:=rng_ok g' hrg hru
                    have q1:=mn_le a 0
                    have q2:=le_mx c 0
                    refine ⟨i64 (if b then z else 0),RU ?_ ?_,role z rfl⟩ <;> cases b <;> simp <;> omega
                  · cases h
              · cases h
            · rename_i h13
              cases h
              exact ⟨i64 0,RN _ _,fun w' hw'=>role_no n l w' h13⟩
          · cases hcst
        · cases h
      · cases h
end SE
end
section
namespace SE
variable {pc:Array Value} {own0:Nat→Prop} {w0 w:World} {E:Env} {st:SE.St}
theorem isC_ok (g:G (Xc pc) own0 w0 E st w) {v:SV} {n z:Int} (h:isC st v n=true) (hr:R E v (i64 z)):z=n:=by
  unfold isC at h
  split at h
  · rename_i k l hh hrng
    simp only [Bool.and_eq_true,decide_eq_true_eq] at h
    obtain ⟨z',hz,h1,h2⟩:=rng_ok g hrng hr
    cases hz
    omega
  · cases h
theorem excl_ok (g:G (Xc pc) own0 w0 E st w) {v:SV} {n z:Int} (h:excl st v n=true) (hr:R E v (i64 z)):z≠n:=by
  unfold excl at h
  split at h
  · rename_i k l hh hrng
    simp only [Bool.or_eq_true,decide_eq_true_eq] at h
    obtain ⟨z',hz,h1,h2⟩:=rng_ok g hrng hr
    cases hz
    omega
  · cases h
theorem leR_ok (g:G (Xc pc) own0 w0 E st w) {a b:SV} {x y:Int} (h:leR st a b=true) (hx:R E a (i64 x)) (hy:R E b (i64 y)):x≤y:=by
  unfold leR at h
  split at h
  · rename_i k1 l1 h1 k2 l2 h2 e1 e2
    simp only [decide_eq_true_eq] at h
    obtain ⟨z1,hz1,p1,p2⟩:=rng_ok g e1 hx
    obtain ⟨z2,hz2,q1,q2⟩:=rng_ok g e2 hy
    cases hz1
    cases hz2
    omega
  · cases h
theorem ltR_ok (g:G (Xc pc) own0 w0 E st w) {a b:SV} {x y:Int} (h:ltR st a b=true) (hx:R E a (i64 x)) (hy:R E b (i64 y)):x<y:=by
  unfold ltR at h
  split at h
  · rename_i k1 l1 h1 k2 l2 h2 e1 e2
    simp only [decide_eq_true_eq] at h
    obtain ⟨z1,hz1,p1,p2⟩:=rng_ok g e1 hx
    obtain ⟨z2,hz2,q1,q2⟩:=rng_ok g e2 hy
    cases hz1
    cases hz2
    omega
  · cases h
theorem sumR_ok (g:G (Xc pc) own0 w0 E st w) {a b c d:SV} {x y z u:Int} (h:sumR st a b c d=true) (hx:R E a (i64 x)) (hy:R E b (i64 y)) (hz:R E c (i64 z)) (hu:R E d (i64 u)):x+y+z≤u:=by
  unfold sumR at h
  split at h
  · rename_i e1 e2 e3 e4
    simp only [decide_eq_true_eq] at h
    obtain ⟨z1,hz1,p1,p2⟩:=rng_ok g e1 hx
    obtain ⟨z2,hz2,q1,q2⟩:=rng_ok g e2 hy
    obtain ⟨z3,hz3,r1,r2⟩:=rng_ok g e3 hz
    obtain ⟨z4,hz4,s1,s2⟩:=rng_ok g e4 hu
    cases hz1
    cases hz2
    cases hz3
    cases hz4
    omega
  · cases h
theorem anyF_ok {k:Nat} {f:List SV→Bool}:∀ {l:List (Nat×List SV)},anyF k f l=true→∃ x,(k,x)∈l∧f x=true
  | [],h=>by cases h
  | y :: l,h=>by
    simp only [anyF,cond_eq_ite,Bool.and_eq_true] at h
    split at h
    · rename_i hh
      have:=nbeq hh.1
      obtain ⟨a,b⟩:=y
      simp only at this
      subst this
      exact ⟨b,List.mem_cons_self,hh.2⟩
    · obtain ⟨x,h1,h2⟩:=anyF_ok h
      exact ⟨x,List.mem_cons_of_mem _ h1,h2⟩
theorem exI_eq {E:Env} {x:SV} {a b:Int} (h:exI x=true) (ha:R E x (i64 a)) (hb:R E x (i64 b)):a=b:=by
  obtain ⟨z,h1,h2⟩:=exI_two h ha hb
  simp only [i64,Value.int.injEq,true_and] at h1 h2
  omega
theorem exI_isI {x:SV} (h:exI x=true):isI x=true:=by
  unfold exI at h
  split at h <;> first | rfl | cases h
theorem allEx_allI:∀ {l:List SV},allEx l=true→allI l=true
  | [],h=>rfl
  | x::l,h=>by
    simp only [allEx,Bool.and_eq_true] at h
    simp only [allI,exI_isI h.1,allEx_allI h.2,Bool.and_self]
theorem fact_at (g:G (Xc pc) own0 w0 E st w) {k:Nat} {l:List SV} (h:(k,l)∈st.facts):∃ vs,RL E l vs∧UFc pc k vs:=g.facts _ h
theorem le1_ok (g:G (Xc pc) own0 w0 E st w) {a b:SV} {x y:Int} (ha:exI a=true) (hb:exI b=true) (h:leF1 st a b=true) (hx:R E a (i64 x)) (hy:R E b (i64 y)):x≤y:=by
  simp only [leF1,Bool.or_eq_true] at h
  rcases h with h | h | h
  · have:=SV.beqC_eq h
    subst this
    rw [exI_eq ha hx hy]
    exact Int.le_refl _
  · exact leR_ok g h hx hy
  · obtain ⟨vs,h1,p,q,rfl,hpq⟩:=fact_at g (hasF_mem h)
    obtain ⟨u,v,e,hu,hv⟩:=RL2 h1
    cases e
    rw [exI_eq ha hx hu,exI_eq hb hy hv]
    exact hpq
theorem RL5 {E:Env} {a b c d e:SV} {vs:List Value} (h:RL E [a,b,c,d,e] vs):∃ x y z u v,vs=[x,y,z,u,v]∧R E a x∧R E b y∧R E c z∧R E d u∧R E e v:=by
  simp only [RL] at h
  obtain ⟨v,vs',rfl,h1,v2,vs2,rfl,h2,v3,vs3,rfl,h3,v4,vs4,rfl,h4,v5,vs5,rfl,h5,rfl⟩:=h
  exact ⟨v,v2,v3,v4,v5,rfl,h1,h2,h3,h4,h5⟩
theorem le2_ok (g:G (Xc pc) own0 w0 E st w) {a b:SV} {x y:Int} (ha:exI a=true) (hb:exI b=true) (h:leF2 st a b=true) (hx:R E a (i64 x)) (hy:R E b (i64 y)):x≤y:=by
  simp only [leF2,Bool.or_eq_true] at h
  rcases h with h | h
  · exact le1_ok g ha hb h hx hy
  · obtain ⟨l,hl,hf⟩:=anyF_ok h
    split at hf
    · rename_i p q
      simp only [Bool.and_eq_true] at hf
      have:=SV.beqC_eq hf.1
      subst this
      obtain ⟨vs,h1,u,v,rfl,huv⟩:=fact_at g hl
      obtain ⟨p1,q1,e,hp,hq⟩:=RL2 h1
      cases e
      have e1:=exI_eq ha hx hp
      have e2:=le1_ok g hf.2.1 hb hf.2.2 hq hy
      omega
    · cases hf
theorem pick3_RL {E:Env} {i:Nat} {a b c:SV} {x y z:Int} (h1:R E a (i64 x)) (h2:R E b (i64 y)) (h3:R E c (i64 z)):R E (pick3 i a b c) (i64 (pick3 i x y z)):=by
  unfold pick3
  split <;> assumption
theorem geZ_ok (g:G (Xc pc) own0 w0 E st w) {v:SV} {z:Int} (h:geZ st v=true) (hr:R E v (i64 z)):0≤z:=by
  unfold geZ at h
  split at h
  · rename_i k l hh hrng
    simp only [decide_eq_true_eq] at h
    obtain ⟨z',hz,h1,h2⟩:=rng_ok g hrng hr
    cases hz
    omega
  · cases h
theorem z8_ok (g:G (Xc pc) own0 w0 E st w) {h q:SV} {i:Nat} {x y:Int} (hi:i=1∨i=2∨i=3) (eh:exI h=true) (eq:exI q=true) (hz:z8 st h q i=true) (hx:R E h (i64 x)) (hy:R E q (i64 y)):x=(i:Int)→y=0:=by
  intro hxi
  simp only [z8,Bool.or_eq_true,Bool.and_eq_true] at hz
  rcases hz with hz | hz | hz
  · exact isC_ok g hz hy
  · exact absurd hxi (by have:=excl_ok g hz hx; simpa using this)
  · have h0:=geZ_ok g hz.1 hy
    obtain ⟨l,hl,hf⟩:=anyF_ok hz.2
    split at hf
    · rename_i h' p1 p2 p3
      simp only [Bool.and_eq_true] at hf
      have:=SV.beqC_eq hf.1
      subst this
      obtain ⟨vs,h1,a,b,c,d,rfl,f1,f2,f3⟩:=fact_at g hl
      obtain ⟨u1,u2,u3,u4,e,r1,r2,r3,r4⟩:=RL4 h1
      cases e
      have e1:=exI_eq eh hx r1
      have e2:=le1_ok g eq hf.2.1 hf.2.2 hy (pick3_RL r2 r3 r4)
      rcases hi with rfl | rfl | rfl <;> simp only [pick3] at e2
      · have:=f1 (by simp at hxi; omega); omega
      · have:=f2 (by simp at hxi; omega); omega
      · have:=f3 (by simp at hxi; omega); omega
    · cases hf
theorem z9_ok (g:G (Xc pc) own0 w0 E st w) {o h f:SV} {i:Nat} {x y z:Int} (hi:i=1∨i=2∨i=3) (eo:exI o=true) (eh:exI h=true) (ef:exI f=true) (hz:z9 st o h f i=true) (hx:R E o (i64 x)) (hy:R E h (i64 y)) (hf:R E f (i64 z)) :
    x=(i:Int)→z=1∧y≠(i:Int):=by
  intro hxi
  simp only [z9,Bool.or_eq_true,Bool.and_eq_true] at hz
  rcases hz with hz | hz | hz
  · exact absurd hxi (by have:=excl_ok g hz hx; simpa using this)
  · exact ⟨isC_ok g hz.1 hf,by have:=excl_ok g hz.2 hy; simpa using this⟩
  · obtain ⟨l,hl,hq⟩:=anyF_ok hz
    split at hq
    · rename_i o' h' g1 g2 g3
      simp only [Bool.and_eq_true,Bool.or_eq_true] at hq
      have e1:=SV.beqC_eq hq.1
      have e2:=SV.beqC_eq hq.2.1
      subst e1 e2
      obtain ⟨vs,h1,a,b,c,d,e,rfl,f0,f1,f2,f3⟩:=fact_at g hl
      obtain ⟨u1,u2,u3,u4,u5,ee,r1,r2,r3,r4,r5⟩:=RL5 h1
      cases ee
      have e1:=exI_eq eo hx r1
      have e2:=exI_eq eh hy r2
      have key:pick3 i c d e=1∧b≠(i:Int):=by
        rcases hi with rfl | rfl | rfl <;> simp only [pick3]
        · exact f1 (by simp at hxi; omega)
        · exact f2 (by simp at hxi; omega)
        · exact f3 (by simp at hxi; omega)
      refine ⟨?_,by rw [e2]; exact key.2⟩
      rcases hq.2.2 with hq | hq
      · exact isC_ok g hq hf
      · have:=SV.beqC_eq hq
        subst this
        rw [exI_eq ef hf (pick3_RL r3 r4 r5)]
        exact key.1
    · cases hq
theorem z10_ok (g:G (Xc pc) own0 w0 E st w) {a b:SV} {x y:Int} (ea:exI a=true) (h:z10 st a b=true) (hx:R E a (i64 x)) (hy:R E b (i64 y)):x≤y:=by
  simp only [z10,Bool.and_eq_true,Bool.or_eq_true] at h
  rcases h.2 with h2 | h2
  · have:=SV.beqC_eq h2
    subst this
    rw [exI_eq ea hx hy]
    exact Int.le_refl _
  · exact leR_ok g h2 hx hy
theorem mostOf_nn (hp:PolFit pc):0≤mostOf pc:=by
  have h:0≤pI pc 51:=(hp.most 1 (by omega)).1
  simp only [mostOf]
  omega
theorem fzc (hp:PolFit pc):FzOk (Xc pc) zT:=by
  intro own0 w0 E st w g k svs h
  simp only [zT,Bool.and_eq_true] at h
  obtain ⟨hex,hv,hz⟩:=h
  obtain ⟨vs,hvs⟩:=hasV_ok g hv
  refine ⟨vs,hvs,?_⟩
  obtain ⟨zs,rfl⟩:=allI_ok (allEx_allI hex) hvs
  unfold zT1 at hz
  split at hz
  · rename_i x
    simp only [Bool.and_eq_true] at hz
    have:=nbeq hz.1
    subst this
    obtain ⟨u,e,hu⟩:=RL1 hvs
    match zs,e with
    | [z],e =>
      cases e
      have h0:=mostOf_nn hp
      have:=isC_ok g hz.2 hu
      exact ⟨z,rfl,by omega,by omega⟩
  · rename_i a b
    simp only [Bool.and_eq_true,Bool.or_eq_true] at hz
    obtain ⟨u,v,e,hua,hub⟩:=RL2 hvs
    simp only [allEx,Bool.and_eq_true] at hex
    match zs,e with
    | [x, y],e =>
      cases e
      rcases hz with ⟨hk,hz⟩ | ⟨hk,hz⟩
      · have:=nbeq hk
        subst this
        exact ⟨x,y,rfl,le2_ok g hex.1 hex.2.1 hz hua hub⟩
      · have:=nbeq hk
        subst this
        refine ⟨x,y,rfl,?_⟩
        obtain ⟨l1,hl1,hf1⟩:=anyF_ok hz
        split at hf1
        · rename_i p r
          simp only [Bool.and_eq_true] at hf1
          have:=SV.beqC_eq hf1.1
          subst this
          obtain ⟨l2,hl2,hf2⟩:=anyF_ok hf1.2
          split at hf2
          · rename_i q s
            simp only [Bool.and_eq_true] at hf2
            have:=SV.beqC_eq hf2.1
            subst this
            obtain ⟨vs1,k1,x1,r1,rfl,er1⟩:=fact_at g hl1
            obtain ⟨vs2,k2,x2,r2,rfl,er2⟩:=fact_at g hl2
            obtain ⟨u1,v1,e1,p1,q1⟩:=RL2 k1
            obtain ⟨u2,v2,e2,p2,q2⟩:=RL2 k2
            cases e1
            cases e2
            rw [exI_eq hex.1 hua p1,exI_eq hex.2.1 hub p2,← er1,← er2]
            exact ltR_ok g hf2.2 q1 q2
          · cases hf2
        · cases hf1
  · rename_i f i r
    simp only [Bool.and_eq_true,Bool.or_eq_true] at hz
    have:=nbeq hz.1
    subst this
    obtain ⟨u,v,x,e,hu,hv,hx⟩:=RL3 hvs
    simp only [allEx,Bool.and_eq_true] at hex
    match zs,e with
    | [zf,zi,zr],e =>
      cases e
      refine ⟨zf,zi,zr,rfl,?_⟩
      rcases hz.2 with h2 | h2
      · exact .inl (isC_ok g h2 hu)
      · obtain ⟨vs',h1,p,q,rfl,hpq⟩:=fact_at g (hasF_mem h2)
        obtain ⟨u1,u2,e,r1,r2⟩:=RL2 h1
        cases e
        rw [exI_eq hex.2.1 hv r1,exI_eq hex.2.2.1 hx r2]
        exact .inr hpq
  · rename_i a b c d
    obtain ⟨u1,u2,u3,u4,e,r1,r2,r3,r4⟩:=RL4 hvs
    simp only [allEx,Bool.and_eq_true] at hex
    obtain ⟨x1,x2,x3,x4,_⟩:=hex
    match zs,e with
    | [za,zb,zc,zd],e =>
      cases e
      simp only [cond_eq_ite] at hz
      split at hz
      · rename_i hk
        have:=nbeq hk
        subst this
        simp only [Bool.and_eq_true] at hz
        exact ⟨za,zb,zc,zd,rfl,z8_ok g (.inl rfl) x1 x2 hz.1 r1 r2,z8_ok g (.inr (.inl rfl)) x1 x3 hz.2.1 r1 r3,z8_ok g (.inr (.inr rfl)) x1 x4 hz.2.2 r1 r4⟩
      · split at hz
        · rename_i hk
          have:=nbeq hk
          subst this
          refine ⟨za,zb,zc,zd,rfl,?_⟩
          simp only [Bool.or_eq_true] at hz
          rcases hz with hz | hz
          · exact sumR_ok g hz r1 r2 r3 r4
          · obtain ⟨l,hl,hf⟩:=anyF_ok hz
            split at hf
            · rename_i x y z m
              simp only [Bool.and_eq_true] at hf
              have:=SV.beqC_eq hf.1
              subst this
              obtain ⟨vs',h1,p,q,r,s,rfl,hpq⟩:=fact_at g hl
              obtain ⟨v1,v2,v3,v4,e,q1,q2,q3,q4⟩:=RL4 h1
              cases e
              have e1:=z10_ok g x1 hf.2.1 r1 q1
              have e2:=z10_ok g x2 hf.2.2.1 r2 q2
              have e3:=z10_ok g x3 hf.2.2.2 r3 q3
              have e4:=exI_eq x4 r4 q4
              omega
            · cases hf
        · split at hz
          · rename_i hk
            have:=nbeq hk
            subst this
            refine ⟨za,zb,zc,zd,rfl,?_⟩
            simp only [Bool.or_eq_true] at hz
            rcases hz with hz | hz | hz
            · exact .inl (isC_ok g hz r1)
            · exact .inr (.inl (isC_ok g hz r2))
            · have:=SV.beqC_eq hz
              subst this
              exact .inr (.inr (exI_eq x3 r3 r4))
          · cases hz
  · rename_i o h a b c
    obtain ⟨u1,u2,u3,u4,u5,e,r1,r2,r3,r4,r5⟩:=RL5 hvs
    simp only [allEx,Bool.and_eq_true] at hex
    obtain ⟨x1,x2,x3,x4,x5,_⟩:=hex
    match zs,e with
    | [zo,zh,za,zb,zc],e =>
      cases e
      simp only [Bool.and_eq_true] at hz
      obtain ⟨hk,h0,h1,h2,h3⟩:=hz
      have:=nbeq hk
      subst this
      refine ⟨zo,zh,za,zb,zc,rfl,?_,z9_ok g (.inl rfl) x1 x2 x3 h1 r1 r2 r3,z9_ok g (.inr (.inl rfl)) x1 x2 x4 h2 r1 r2 r4,z9_ok g (.inr (.inr rfl)) x1 x2 x5 h3 r1 r2 r5⟩
      simp only [Bool.or_eq_true] at h0
      rcases h0 with h0 | h0
      · exact excl_ok g h0 r1
      · obtain ⟨l,hl,hf⟩:=anyF_ok h0
        split at hf
        · have:=SV.beqC_eq hf
          subst this
          obtain ⟨vs',h1,p,q,r,s,t,rfl,f0,_⟩:=fact_at g hl
          obtain ⟨v1,v2,v3,v4,v5,e,q1,_⟩:=RL5 h1
          cases e
          rw [exI_eq x1 r1 q1]
          exact f0
        · cases hf
  · cases hz
end SE
end
section
namespace SE
open Go.RowKit
variable {X:Px} {pc:Array Value} {own0:Nat→Prop} {w0 w:World} {E:Env} {st:SE.St}
def KOne (X:Px) (gi:Nat) (kf:List SV→SE.St→Option Out):Prop :=
  ∀ own0 w0 args st l,kf args st=some l→∀ E w (vals:Array Value),G X own0 w0 E st w→RL E args vals.toList→Calls X.P gi vals w (Outs X own0 w0 E l)
theorem G.below (g:G X own0 w0 E st w) {w':World} (h:Below w.heap.size w w'):G X own0 w0 E st w' :=
  g.ext ⟨h.size,h.block⟩ h.os h.tape h.output
theorem G.addFact (g:G X own0 w0 E st w) {k:Nat} {l:List SV} (h:∃ vs,RL E l vs∧X.UF k vs):G X own0 w0 E (addFact st k l) w:=by
  refine ⟨g.size,g.os,g.tape,g.output,g.frame,g.heap,g.inj,g.tab,fun id i hl=>?_,g.dom,g.gl,fun x hx=>?_⟩
  · have:=g.sls id i hl
    cases i <;> exact this
  · rcases List.mem_cons.1 hx with rfl | hx
    · exact h
    · exact g.facts x hx
theorem G.atom (g:G X own0 w0 E st w) {lo hi z:Int} (h1:lo≤z) (h2:z≤hi):G X own0 w0 (E.upd st.nid (.z z)) (atom st lo hi) w:=by
  have hle:=Env.le_upd (x:=EV.z z) g.nid_none
  have g1:=g.mono hle (fun id hid=>Env.upd_ne _ _ (by omega)) (Nat.le_succ _) (dom_upd g _)
  refine ⟨g1.size,g1.os,g1.tape,g1.output,g1.frame,g1.heap,g1.inj,fun id lo' hi' hl=>?_,fun id i hl=>?_,g1.dom,g1.gl,g1.facts⟩
  · simp only [SE.atom,lk_cons] at hl
    split at hl
    · rename_i he
      subst he
      cases hl
      exact ⟨z,Env.upd_self _ _ _,h1,h2⟩
    · exact g1.tab id lo' hi' hl
  · have:=g1.sls id i hl
    cases i <;> exact this
theorem exS_eq {E:Env} {x:SV} {u v:Value} (h:exS x=true) (hu:R E x u) (hv:R E x v):u=v:=by
  unfold exS at h
  split at h
  · simp only [R,SIok] at hu hv
    obtain ⟨a,ha,rfl⟩:=hu
    obtain ⟨b,hb,rfl⟩:=hv
    rw [ha] at hb
    cases hb
    rfl
  · simp only [R] at hu hv
    obtain ⟨b1,n1,c1,e1,rfl⟩:=hu
    obtain ⟨b2,n2,c2,e2,rfl⟩:=hv
    rw [e1] at e2
    cases e2
    rfl
  · cases h
theorem allXS_eq {E:Env}:∀ {l:List SV} {us vs:List Value},allXS l=true→RL E l us→RL E l vs→us=vs
  | [],us,vs,h,hu,hv=>by rw [RL_nil.1 hu,RL_nil.1 hv]
  | x::l,us,vs,h,hu,hv=>by
    simp only [allXS,Bool.and_eq_true] at h
    simp only [RL] at hu hv
    obtain ⟨u,us',rfl,u1,u2⟩:=hu
    obtain ⟨v,vs',rfl,v1,v2⟩:=hv
    rw [exS_eq h.1 u1 v1,allXS_eq h.2 u2 v2]
theorem isPol_ok (g:G (Xc pc) own0 w0 E st w) {p:SV} {v:Value} (h:isPol st p=true) (hr:R E p v):v=.agg pc:=by
  unfold isPol at h
  split at h
  · rename_i l
    simp only [Bool.and_eq_true] at h
    obtain ⟨vs,h1,h2⟩:=fact_at g (hasF_mem h.2)
    simp only [R] at hr
    obtain ⟨cs,rfl,hl⟩:=hr
    have e:=allXS_eq h.1 hl h1
    have h2':vs=pc.toList:=h2
    rw [h2'] at e
    congr 1
    exact Array.ext' e
  · cases h
theorem isI_ok {E:Env} {x:SV} {v:Value} (h:isI x=true) (hr:R E x v):∃ z,v=i64 z:=by
  unfold isI at h
  split at h
  · simp only [R] at hr
    obtain ⟨z,_,rfl⟩:=hr
    exact ⟨z,rfl⟩
  · cases h
theorem isIn_ok (g:G X own0 w0 E st w) {x:SV} {v:Value} {a b:Int} (h:isIn st x a b=true) (hr:R E x v):∃ z,v=i64 z∧a≤z∧z≤b:=by
  simp only [isIn,Bool.and_eq_true] at h
  obtain ⟨z,rfl⟩:=isI_ok h.1 hr
  refine ⟨z,rfl,?_⟩
  have h2:=h.2
  split at h2
  · rename_i k l hh hrng
    simp only [Bool.and_eq_true,decide_eq_true_eq] at h2
    obtain ⟨z',hz,h3,h4⟩:=rng_ok g hrng hr
    cases hz
    omega
  · cases h2
theorem Rbool (E:Env) (b:Bool):R E .bool (.bool b):=by simp only [R]; exact ⟨b,rfl⟩
theorem k_takes (hp:PolFit pc):KOne (Xc pc) 102 kTakes:=by
  intro own0 w0 args st l h E w vals g hr
  unfold kTakes at h
  split at h
  · rename_i p s r
    obtain ⟨x,y,z,e,hx,hy,hz⟩:=RL3 hr
    rw [arr_of e]
    simp only [cond_eq_ite,Bool.and_eq_true] at h
    split at h
    · rename_i hc
      cases h
      have:=isPol_ok g hc.1 hx
      subst this
      obtain ⟨s',rfl⟩:=isI_ok hc.2.1 hy
      obtain ⟨r',rfl⟩:=isI_ok hc.2.2 hz
      refine (takes_any pc s' r' w hp.ok hp.sets).mono fun e w' he=>?_
      obtain ⟨rfl,hb⟩:=he
      have g':=g.below hb
      cases ht:takes pc s' r' with
      | true=>exact ⟨_,List.mem_cons_self,E,_,Env.le_refl E,rfl,by simp only [R],g'.addFact ⟨[i64 s',i64 r'],RL_cons.2 ⟨hy,RL_cons.2 ⟨hz,by simp [RL]⟩⟩,s',r',rfl,ht⟩⟩
      | false=>exact ⟨_,List.mem_cons_of_mem _ List.mem_cons_self,E,_,Env.le_refl E,rfl,by simp only [R],g'⟩
    · cases h
  · cases h
theorem k_higher (hp:PolFit pc):KOne (Xc pc) 204 kHigher:=by
  intro own0 w0 args st l h E w vals g hr
  unfold kHigher at h
  split at h
  · rename_i p s r
    obtain ⟨x,y,z,e,hx,hy,hz⟩:=RL3 hr
    rw [arr_of e]
    simp only [cond_eq_ite,Bool.and_eq_true] at h
    split at h
    · rename_i hc
      cases h
      have:=isPol_ok g hc.1 hx
      subst this
      obtain ⟨s',rfl⟩:=isI_ok hc.2.1 hy
      obtain ⟨r',rfl⟩:=isI_ok hc.2.2 hz
      refine (higher_any pc s' r' w hp.ok).mono fun e w' he=>?_
      obtain ⟨rfl,hb⟩:=he
      exact ⟨_,List.mem_cons_self,E,_,Env.le_refl E,rfl,Rbool E _,g.below hb⟩
    · cases h
  · cases h
theorem k_rank (hp:PolFit pc):KOne (Xc pc) 206 kRank:=by
  intro own0 w0 args st l h E w vals g hr
  unfold kRank at h
  split at h
  · rename_i p s
    obtain ⟨x,y,e,hx,hy⟩:=RL2 hr
    rw [arr_of e]
    simp only [cond_eq_ite,Bool.and_eq_true] at h
    split at h
    · rename_i hc
      cases h
      have:=isPol_ok g hc.1 hx
      subst this
      obtain ⟨s',rfl⟩:=isI_ok hc.2 hy
      refine (rank_any pc s' w hp.ok).mono fun e w' he=>?_
      obtain ⟨rfl,hb⟩:=he
      have hrk:=rank_ge pc s'
      have hle:=Env.le_upd (x:=EV.z (rank pc s')) g.nid_none
      have hra:R (E.upd st.nid (.z (rank pc s'))) (A st.nid) (i64 (rank pc s')):=by
        simp only [A,R,SIok]
        exact ⟨_,Env.upd_self _ _ _,rfl⟩
      refine ⟨_,List.mem_cons_self,E.upd st.nid (.z (rank pc s')),_,hle,rfl,hra,?_⟩
      exact ((g.below hb).atom hrk.1 hrk.2).addFact ⟨[i64 s',i64 (rank pc s')],RL_cons.2 ⟨hy.mono hle,RL_cons.2 ⟨hra,by simp [RL]⟩⟩,s',rank pc s',rfl,rfl⟩
    · cases h
  · cases h
theorem nat_of {z:Int} {n:Nat} (h1:0≤z) (h2:z≤(n:Int)):∃ m:Nat,z=m∧m≤n:=⟨z.toNat,by omega,by omega⟩
theorem g_alloc (g:G X own0 w0 E st w) (o:Obj):G X own0 w0 E st (w.alloc o):=g.ext (ext_alloc w o) rfl rfl rfl
theorem k_may (hp:PolFit pc):KOne (Xc pc) 168 kMay:=by
  intro own0 w0 args st l h E w vals g hr
  unfold kMay at h
  split at h
  · rename_i p m r c
    obtain ⟨x,y,z,u,e,hx,hy,hz,hu⟩:=RL4 hr
    rw [arr_of e]
    simp only [cond_eq_ite,Bool.and_eq_true] at h
    split at h
    · rename_i hc
      cases h
      have:=isPol_ok g hc.1 hx
      subst this
      obtain ⟨a,rfl,a1,a2⟩:=isIn_ok g hc.2.1 hy
      obtain ⟨b,rfl,b1,b2⟩:=isIn_ok g hc.2.2.1 hz
      obtain ⟨d,rfl,d1,d2⟩:=isIn_ok g hc.2.2.2 hu
      obtain ⟨a',rfl,a3⟩:=nat_of (n:=4) a1 a2
      obtain ⟨b',rfl,b3⟩:=nat_of (n:=3) b1 b2
      obtain ⟨d',rfl,d3⟩:=nat_of (n:=3) d1 d2
      refine (may_any pc a' b' d' w hp.ok hp.sets (by omega) (by omega) (by omega)).mono fun e w' he=>?_
      obtain ⟨t,rfl,rfl⟩:=he
      exact ⟨_,List.mem_cons_self,E,_,Env.le_refl E,rfl,Rbool E _,g_alloc g _⟩
    · cases h
  · cases h
theorem k_goes (hp:PolFit pc):KOne (Xc pc) 169 kGoes:=by
  intro own0 w0 args st l h E w vals g hr
  unfold kGoes at h
  split at h
  · rename_i p m r
    obtain ⟨x,y,z,e,hx,hy,hz⟩:=RL3 hr
    rw [arr_of e]
    simp only [cond_eq_ite,Bool.and_eq_true] at h
    split at h
    · rename_i hc
      cases h
      have:=isPol_ok g hc.1 hx
      subst this
      obtain ⟨a,rfl,a1,a2⟩:=isIn_ok g hc.2.1 hy
      obtain ⟨b,rfl,b1,b2⟩:=isIn_ok g hc.2.2 hz
      obtain ⟨a',rfl,a3⟩:=nat_of (n:=4) a1 a2
      obtain ⟨b',rfl,b3⟩:=nat_of (n:=4) b1 b2
      refine (goes_any pc a' b' w hp.ok hp.sets (by omega) (by omega)).mono fun e w' he=>?_
      obtain ⟨t,rfl,rfl⟩:=he
      exact ⟨_,List.mem_cons_self,E,_,Env.le_refl E,rfl,Rbool E _,g_alloc g _⟩
    · cases h
  · cases h
theorem k_see:KOne (Xc pc) 109 kSee:=by
  intro own0 w0 args st l h E w vals g hr
  unfold kSee at h
  split at h
  · rename_i a hi sn n
    obtain ⟨x,y,e,hx,hy⟩:=RL2 hr
    rw [arr_of e]
    simp only [cond_eq_ite,Bool.and_eq_true] at h
    split at h
    · rename_i hc
      cases h
      simp only [R] at hx
      obtain ⟨cs,rfl,hl⟩:=hx
      obtain ⟨u1,u2,u3,e2,r1,r2,r3⟩:=RL3 hl
      obtain ⟨b,rfl⟩:=isB_ok hc.1 r1
      obtain ⟨z,rfl,z1,z2⟩:=isIn_ok g hc.2.1 r2
      obtain ⟨m,rfl⟩:=isI_ok hc.2.2 hy
      simp only [R] at r3
      obtain ⟨q,_,rfl⟩:=r3
      rw [arr_of e2]
      refine (see_any b z q m w z1 z2).mono fun e w' he=>?_
      obtain ⟨a',h',s',f',rfl,k1,k2,hb⟩:=he
      have hle:=Env.le_upd (x:=EV.z s') g.nid_none
      have g1:=(g.below hb).mono hle (fun id hid=>Env.upd_ne _ _ (by omega)) (Nat.le_succ _) (dom_upd g _)
      refine ⟨_,List.mem_cons_self,E.upd st.nid (.z s'),_,hle,rfl,?_,g1⟩
      simp only [R]
      refine ⟨_,rfl,RL_cons.2 ⟨?_,RL_cons.2 ⟨Rbool _ _,by simp [RL]⟩⟩⟩
      simp only [R]
      refine ⟨_,rfl,RL_cons.2 ⟨Rbool _ _,RL_cons.2 ⟨RU k1 k2,RL_cons.2 ⟨?_,by simp [RL]⟩⟩⟩⟩
      simp only [R,SIok]
      exact ⟨s',Env.upd_self _ _ _,rfl⟩
    · cases h
  · cases h
end SE
end
end Go.Proofs.YtdgejnakakjgfaaGreatDoor
