/- What comes in, as lists of bytes and registers; and the walks of the laws CrcAll, CrcApart. Small functions: numbers, timers, tokens. Offers without closures; the setpoint. The policy; ranks; sets. A machine, dead or alive, as a law sees it: its steps. Who is there: what the records say. Regions that read: rules of an operation in a class of worlds. -/
import Derived.Test.YtdgejnakakjgfaaGreatDoorProg
import Derived.Test.YtdgejnakakjgfaaGreatDoorR07
import Derived.Test.YtdgejnakakjgfaaGreatDoorR08
import Derived.Test.YtdgejnakakjgfaaGreatDoorR36
import Derived.Test.YtdgejnakakjgfaaGreatDoorR38
import Derived.Test.YtdgejnakakjgfaaGreatDoorR02
import Derived.Deep.QuietTactic
import Derived.BigQuiet
import Derived.Below
import Derived.Outline
import Derived.Deep.RegionHeld3
import Derived.Deep.RegionWith
import Derived.StillTailTactics
import Derived.LoopN
import Derived.Tactics
set_option linter.unusedVariables false
set_option linter.unusedSimpArgs false
set_option maxRecDepth 100000
namespace Go.Proofs.YtdgejnakakjgfaaGreatDoor
section
open Go.RowKit Crc
def IsRow (k:IntKind) (w:World) (a:Option Addr) (len cap:Nat) (zs:List Int):Prop :=
 (a=none∧len=0∧cap=0∧zs=[]) ∨
 ∃ x,a=some x∧len≤cap∧cap≤maxLen∧zs.length=cap∧(∀ i,i<zs.length→w.cell? (x.add i)=some (.int k (zs.getD i 0)))∧∀ n∈zs,(Lit.int k n).wf=true
theorem u8_of_wf {a:Int} (h:(Lit.int .u8 a).wf=true):∃ c:UInt8,a=(c.toNat:Int):=by
 simp [Lit.wf] at h
 obtain ⟨h1,h2⟩:=h
 have e1:IntKind.u8.min=0:=by decide
 have e2:IntKind.u8.max=255:=by decide
 refine ⟨UInt8.ofNat a.toNat,?_⟩
 simp only [UInt8.toNat_ofNat']
 omega
theorem IsRow.bytes {w:World} {a:Option Addr} {len cap:Nat} {zs:List Int} (h:IsRow .u8 w a len cap zs) :
  len≤cap∧cap≤maxLen∧∃ l:List UInt8,l.length=len∧Reads w w.heap.size 1 a len (l.map bv):=by
 rcases h with ⟨rfl,rfl,rfl,rfl⟩ | ⟨x,rfl,h1,h2,h3,h4,h5⟩
 ·exact ⟨by omega,by decide,[],rfl,Reads.none_⟩
 ·refine ⟨h1,h2,(zs.take len).map fun z=>UInt8.ofNat z.toNat,by simp; omega,by simp; omega,fun hn=>⟨x,rfl,?_,?_⟩⟩
  ·have:=h4 0 (by omega)
   rw [← block_of_add x 0]
   exact World.block_lt_of_cell? w _ this
  ·intro j u hu
   simp only [List.map_map,List.getElem?_map,Option.map_eq_some_iff] at hu
   obtain ⟨z,hz,rfl⟩:=hu
   rw [List.getElem?_take] at hz
   split at hz
   case isFalse=>cases hz
   have hj:j<zs.length:=by omega
   have hzj:z=zs[j]:=by rw [List.getElem?_eq_getElem hj] at hz; exact (Option.some.inj hz).symm
   obtain ⟨c,hc⟩:=u8_of_wf (h5 _ (List.getElem_mem hj))
   rw [h4 j hj]
   simp [List.getD_eq_getElem?_getD,List.getElem?_eq_getElem hj,hzj,bv,hc]
end
section
open Go.RowKit
def Tok.c (t:Tok):Array Value:=#[.int .i64 t.holder,.int .i64 t.epoch,.int .i64 t.offer,.int .i64 t.oa.at_,.int .i64 t.oa.most,.int .i64 t.la.at_,.int .i64 t.la.most,.bool t.bad]
end
section
open Go.RowKit
def Pt.hold (p:Pt) (l:Lb):Pt:={ p with t0:=0,t1:=0,t2:=0,t3:=0,by_:=l }
end
section
open Go.RowKit
theorem odd_e (q:Nat):((q:Int) % 2 == 1)=decide (q % 2=1):=by
 by_cases h:q % 2=1
 ·rw [decide_eq_true h]; simp; omega
 ·rw [decide_eq_false h]; simp; omega
set_option maxHeartbeats 1000000 in
theorem rhas_any (m i:Nat) (w:World) (hm:m<32) (hi:i<5):Calls Tryz.prog 23 #[.int .i64 m,.int .i64 i] w fun e w'=>e=.returned (.bool (hasN m i))∧w=w':=by
 go_enter Tryz.func23,Tryz.ntmps23
 go_wp2
 go_loop [0,5] (fun v u=>∃ k q:Nat,k≤i∧q=m / 2 ^ k∧u=.int .i64 k∧v=.int .i64 (q:Int)) (fun _ u=>i - (intOf u).toNat)
 case atStart=>exact ⟨0,m,by omega,by simp,rfl,rfl⟩
 case round =>
  obtain ⟨k,q,hk,hq,rfl,rfl⟩:=hrel
  have hq2:q<32:=by have:=Nat.div_le_self m (2 ^ k); omega
  have HQ:=Lib.hid hq
  clear hq
  by_cases hlt:k<i
  ·go_wp2
   go_round
   case rel=>exact ⟨k+1,q / 2,by omega,by rw [HQ.out,Nat.pow_succ,Nat.div_div_eq_div_mul],by go_num,by first | rfl | go_num⟩
   case measure=>simp [intOf]; omega
  ·obtain rfl:k=i:=by omega
   have e:hasN m k=((q:Int) % 2 == 1):=by unfold hasN; rw [← HQ.out,odd_e]
   have HE:=Lib.hid e
   clear e
   go_wp2
   go_ret
   exact ⟨by rw [HE.out]; rfl,rfl⟩
theorem in_any (n b:Int) (w:World):Calls Tryz.prog 22 #[.int .i64 n,.int .i64 b] w fun e w'=>e=.returned (.bool (decide (0≤n∧n<b)))∧w=w':=by
 by_cases h:0≤n
 ·by_cases h2:n<b
  ·rw [decide_eq_true ⟨h,h2⟩]
   go_enter Tryz.func22,Tryz.ntmps22
   go_wp2
   go_ret
   exact ⟨rfl,rfl⟩
  ·rw [decide_eq_false (fun x=>h2 x.2)]
   go_enter Tryz.func22,Tryz.ntmps22
   go_wp2
   go_ret
   exact ⟨rfl,rfl⟩
 ·rw [decide_eq_false (fun x=>h x.1)]
  go_enter Tryz.func22,Tryz.ntmps22
  go_wp2
  go_ret
  exact ⟨rfl,rfl⟩
set_option maxHeartbeats 1000000 in
theorem rtakes_any (pc:Array Value) (s r:Int) (w:World) (hp:PolOk pc) (hs:PolSets pc):Calls Tryz.prog 13 #[.agg pc,.int .i64 s,.int .i64 r] w fun e w'=>e=.returned (.bool (takes pc s r))∧Below w.heap.size w w':=by
 by_cases h:0≤s∧s<5∧0≤r∧r<4
 ·obtain ⟨k,rfl⟩:∃ k:Nat,s=k:=⟨s.toNat,by omega⟩
  obtain ⟨i,rfl⟩:∃ i:Nat,r=i:=⟨r.toNat,by omega⟩
  have hk:k<5:=by omega
  have hi:i<4:=by omega
  obtain ⟨m,hm,hpi⟩:=hs.1 k hk
  have p1:=hp.at_ (9+k) (by omega) (by omega)
  rw [hpi] at p1
  have e:takes pc k i=hasN m i:=by unfold takes; rw [decide_eq_true h]; simp [hpi]
  have HE:=Lib.hid e
  have d1:decide ((0:Int)≤k∧(k:Int)<5)=true:=decide_eq_true (by omega)
  have d2:decide ((0:Int)≤i∧(i:Int)<4)=true:=decide_eq_true (by omega)
  have HB1:=Lib.hid (fun w=>(d1 ▸ in_any k 5 w:Calls Tryz.prog 22 #[.int .i64 k,.int .i64 5] w fun e w'=>e=.returned (.bool true)∧w=w'))
  have HB2:=Lib.hid (fun w=>(d2 ▸ in_any i 4 w:Calls Tryz.prog 22 #[.int .i64 i,.int .i64 4] w fun e w'=>e=.returned (.bool true)∧w=w'))
  clear e h hp hs hpi d1 d2
  go_enter Tryz.func13,Tryz.ntmps13
  go_wp2_with (first
   | (go_at_call 22; (with_reducible refine (HB1.out _).mono ?_); rintro e w' ⟨rfl,rfl⟩)
   | (go_at_call 22; (with_reducible refine (HB2.out _).mono ?_); rintro e w' ⟨rfl,rfl⟩)
   | (go_at_call 23; (with_reducible refine (rhas_any m i _ hm (by omega)).mono ?_); rintro e w' ⟨rfl,rfl⟩))
  go_ret
  exact ⟨by rw [HE.out]; rfl,by (repeat (first | (with_reducible assumption) | (with_reducible refine below_set ?_ _ _ (by simp)) | (with_reducible refine below_al ?_ _) | (with_reducible refine below_dr ?_) | (with_reducible exact Below.refl _ _) | (with_reducible refine bel_call ?_ (by assumption))))⟩
 ·have e:takes pc s r=false:=by unfold takes; rw [decide_eq_false h]; rfl
  have HE:=Lib.hid e
  clear e hp hs
  by_cases h1:0≤s∧s<5
  ·obtain ⟨h1,h1'⟩:=h1
   have h2:¬ (0≤r∧r<4):=fun x=>h ⟨h1,h1',x.1,x.2⟩
   clear h
   have d1:decide (0≤s∧s<5)=true:=decide_eq_true ⟨h1,h1'⟩
   have d2:decide (0≤r∧r<4)=false:=decide_eq_false h2
   have HB1:=Lib.hid (fun w=>(d1 ▸ in_any s 5 w:Calls Tryz.prog 22 #[.int .i64 s,.int .i64 5] w fun e w'=>e=.returned (.bool true)∧w=w'))
   have HB2:=Lib.hid (fun w=>(d2 ▸ in_any r 4 w:Calls Tryz.prog 22 #[.int .i64 r,.int .i64 4] w fun e w'=>e=.returned (.bool false)∧w=w'))
   clear h1 h1' h2 d1 d2
   go_enter Tryz.func13,Tryz.ntmps13
   go_wp2_with (first
    | (go_at_call 22; (with_reducible refine (HB1.out _).mono ?_); rintro e w' ⟨rfl,rfl⟩)
    | (go_at_call 22; (with_reducible refine (HB2.out _).mono ?_); rintro e w' ⟨rfl,rfl⟩))
   go_ret
   exact ⟨by rw [HE.out]; rfl,by (repeat (first | (with_reducible assumption) | (with_reducible refine below_set ?_ _ _ (by simp)) | (with_reducible refine below_al ?_ _) | (with_reducible refine below_dr ?_) | (with_reducible exact Below.refl _ _) | (with_reducible refine bel_call ?_ (by assumption))))⟩
  ·have d1:decide (0≤s∧s<5)=false:=decide_eq_false h1
   have HB1:=Lib.hid (fun w=>(d1 ▸ in_any s 5 w:Calls Tryz.prog 22 #[.int .i64 s,.int .i64 5] w fun e w'=>e=.returned (.bool false)∧w=w'))
   clear h1 h d1
   go_enter Tryz.func13,Tryz.ntmps13
   go_wp2_with (go_at_call 22; (with_reducible refine (HB1.out _).mono ?_); rintro e w' ⟨rfl,rfl⟩)
   go_ret
   exact ⟨by rw [HE.out]; rfl,by (repeat (first | (with_reducible assumption) | (with_reducible refine below_set ?_ _ _ (by simp)) | (with_reducible refine below_al ?_ _) | (with_reducible refine below_dr ?_) | (with_reducible exact Below.refl _ _) | (with_reducible refine bel_call ?_ (by assumption))))⟩
end
section
namespace SE
open Go.RowKit Mc
variable {w w' w00:World} {pc:Array Value}
theorem GlW.mach (hw00:GlW w00) (hb:Below w00.heap.size w00 w):GlW w:=hw00.belowW hb
end SE
end
section
namespace SE
open Go.RowKit Mc In
variable {w w' wr wr':World} {pc:Array Value} {od od':Option Num} {rs:List Rc} {f:Nat→Bool}
def roleOf:Option Num→Int×Int×Int
 | none=>(0,0,0)
 | some d=>d.ro
theorem en_some {s:Int} (hs:1≤s∧s≤3):∀ (rs:List Rc) (f:Fd),get3 (rs.foldl Fd.step f).en s≠0→get3 f.en s≠0∨∃ r∈rs,r.kind=3∧r.src=s
 | [],f,h=>.inl h
 | q::rs,f,h=>by
  rcases en_some hs rs _ (by rw [List.foldl_cons] at h; exact h) with h | ⟨r,hr,h1,h2⟩
  ·rw [step_en] at h
   split at h
   ·rename_i hk
    rw [get3_put' hs] at h
    split at h
    ·rename_i e
     exact .inr ⟨q,List.mem_cons_self,hk,e.symm⟩
    ·exact .inl h
   ·exact .inl h
  ·exact .inr ⟨r,List.mem_cons_of_mem _ hr,h1,h2⟩
theorem get0 {s:Int} (h1:1≤s) (h2:s≤3):get3 (0,0,0) s=0:=cases3 (P:=fun s=>get3 (0,0,0) s=0) h1 h2 rfl rfl rfl
theorem StepR.there {k s:Int} {b:Bool} (h:StepR k s b od od' rs):(foldO od rs).on=onOf od'∧(∀ t:Int,1≤t→t≤3→get3 (foldO od rs).en t≠0→k=0∧s=t) ∧
  ∀ t:Int,1≤t→t≤3→get3 (onOf od') t≠0→get3 (foldO od rs).en t=0→get3 (roleOf od') t=get3 (roleOf od) t∧get3 (onOf od) t≠0:=by
 cases od with
 | none =>
  obtain ⟨rfl,rfl⟩:=h
  exact ⟨rfl,fun t a b h=>absurd (get0 a b) h,fun t a b h=>absurd (get0 a b) h⟩
 | some d =>
  cases od' with
  | none=>exact h.elim
  | some d' =>
   obtain ⟨late,who,r,hl,hw⟩:=h
   refine ⟨r.on,fun t a b h=>?_,fun t a b h h0=>?_⟩
   ·rcases en_some ⟨a,b⟩ rs _ h with h | ⟨q,hq,h1,h2⟩
    ·exact absurd (get0 a b) h
    ·have:=r.en q hq h1 (by omega)
     rw [h2] at this
     exact hw t this
   ·have hno:=en_zero ⟨a,b⟩ rs _ h0
    refine ⟨?_,fun h1=>?_⟩
    ·rcases r.role t a b with ⟨q,hq,h1,h2⟩ | h1 | h1
     ·exact absurd h2 (hno q hq h1)
     ·exact absurd h1 h
     ·exact h1
    ·have h2:=on_zero ⟨a,b⟩ rs ⟨d.on,d.wt,(0,0,0)⟩ h1 hno
     have h3:(rs.foldl Fd.step ⟨d.on,d.wt,(0,0,0)⟩).on=d'.on:=r.on
     rw [h3] at h2
     exact h h2
theorem flags_on {f0:Fd} {m:Nat} {q:Rc} {fe:Nat→Bool} (hf:FlagsOf f ((rs.take m).foldl Fd.step f0).on) (he:FlagsOf fe ((rs.take m).foldl Fd.step f0).en) (hq:rs[m]?=some q) (h0:0≤q.src) :
  (q.kind=3→FlagsOf (updB f q.src.toNat true) ((rs.take (m+1)).foldl Fd.step f0).on∧FlagsOf (updB fe q.src.toNat true) ((rs.take (m+1)).foldl Fd.step f0).en) ∧
   (q.kind=4∨q.kind=5→FlagsOf (updB f q.src.toNat false) ((rs.take (m+1)).foldl Fd.step f0).on∧FlagsOf fe ((rs.take (m+1)).foldl Fd.step f0).en) ∧
   (q.kind≠3→q.kind≠4→q.kind≠5→FlagsOf f ((rs.take (m+1)).foldl Fd.step f0).on∧FlagsOf fe ((rs.take (m+1)).foldl Fd.step f0).en):=by
 have e:((q.src.toNat:Nat):Int)=q.src:=by omega
 rw [foldl_take _ hq,step_on,step_en]
 refine ⟨fun h=>?_,fun h=>?_,fun h1 h2 h3=>?_⟩
 ·rw [if_pos h,if_pos h]
  have h1:=hf.upd (n:=q.src.toNat) (x:=true) (y:=1) rfl
  have h2:=he.upd (n:=q.src.toNat) (x:=true) (y:=1) rfl
  rw [e] at h1 h2
  exact ⟨h1,h2⟩
 ·rw [if_neg (by omega),if_pos h,if_neg (by omega)]
  have h1:=hf.upd (n:=q.src.toNat) (x:=false) (y:=0) rfl
  rw [e] at h1
  exact ⟨h1,he⟩
 ·rw [if_neg h1,if_neg (by omega),if_neg h1]
  exact ⟨hf,he⟩
theorem SiteQ.link {F:Foot} {cs:Array Value} {q:List Nat} (h:SiteQ pc F w cs q od) {s:Nat} (a:1≤s) (b:s≤3) :
  cs[20+s]?=some (.bool (decide (get3 (onOf od) s≠0)))∧∃ r:Int,cs[25+s]?=some (.int .i64 r)∧(get3 (onOf od) s≠0→r=get3 (roleOf od) s∧takes pc s r=true):=by
 cases od with
 | none =>
  rw [h.1]
  have:s=1∨s=2∨s=3:=by omega
  rcases this with rfl | rfl | rfl <;> exact ⟨rfl,0,rfl,fun h=>absurd rfl h⟩
 | some d =>
  obtain ⟨hh,o,h⟩:=h
  obtain ⟨r,h1,h2⟩:=h.role s a b
  refine ⟨h.on s a b,r,h1,fun hn=>?_⟩
  have h3:=h.on01 s (by omega) (by omega)
  have h4:get3 d.on s=1:=by
   rcases h3 with h3 | h3
   ·exact absurd h3 hn
   ·exact h3
  refine ⟨h2 h4,?_⟩
  rcases h.takes s (by omega) (by omega) with h5 | h5
  ·exact absurd h5 hn
  ·rw [h2 h4]; exact h5
end SE
end
section
namespace Mc
open Go.RowKit SE
variable {P:Program} {ops:Array Oper} {C:World→Prop} {Q:Act→Prop} {a:Act} {o:Oper} {rest:List Oper}
theorem q_val {v:Value} (hw:Region.wanted o (yielded ops a.tmps)=true) (hr:∀ w,C w→(execOp a.eval o).run P w=.ok (.value v) w) (h:wpQuiet P ops C Q rest (a.put o.dst v)):wpQuiet P ops C Q (o::rest) a:=by
 unfold wpQuiet
 rw [if_pos hw]
 refine ⟨v,fun w hC=>?_,h⟩
 unfold Oper.quietAt
 rw [hr w hC]
 exact ⟨rfl,rfl⟩
theorem q_skip (hw:Region.wanted o (yielded ops a.tmps)=false) (h:wpQuiet P ops C Q rest (a.put o.dst undef)):wpQuiet P ops C Q (o::rest) a:=by
 unfold wpQuiet
 rw [if_neg (by rw [hw]; exact Bool.false_ne_true)]
 exact h
theorem q_call {v:Value} {f:FuncId} {args:Array Value} (hw:Region.wanted o (yielded ops a.tmps)=true) (hr:∀ w,C w→(execOp a.eval o).run P w=.ok (.enter f args) w) (hc:∀ w,C w→Calls P f args w fun e w'=>e=.returned v∧C w')
  (h:wpQuiet P ops C Q rest (a.put o.dst v)):wpQuiet P ops C Q (o::rest) a:=by
 unfold wpQuiet
 rw [if_pos hw]
 refine ⟨v,fun w hC=>?_,h⟩
 unfold Oper.quietAt
 rw [hr w hC]
 exact ⟨rfl,hc w hC⟩
theorem region_c (C:World→Prop) {id:Nat} {Q:Exit→Act→World→Prop} {w:World} {l:List Oper} (hm:P.follows .mixedOrders=true) (hB:Region.lexB .any l.toArray=true) (hC:C { w with drawn:=w.drawn+1 })
  (h:wpQuiet P l.toArray C (fun a'=>∀ w',C w'→Q .normal a' w') l a):(Code.region id l.toArray true).wp P Q a w:=wp_region_quiet (C:=C) hm hB hC (by simpa using h)
theorem drewN_below (w:World) (n:Nat):Below w.heap.size w (w.drewN n):=⟨rfl,rfl,rfl,Nat.le_refl _,fun _ _=>rfl⟩
theorem flags_arr:∃ i,Tryz.prog.underlying 53=some (.array 5 4)∧Tryz.prog.info? 4=some i∧i.size=1:=by
 have h:(match Tryz.prog.underlying 53,Tryz.prog.info? 4 with | some (.array 5 4),some i=>i.size == 1 | _,_=>false)=true:=by kernel_rfl
 split at h
 ·rename_i i e1 e2
  exact ⟨i,e1,e2,by simpa using h⟩
 ·cases h
theorem roles_arr:∃ i,Tryz.prog.underlying 22=some (.array 5 3)∧Tryz.prog.info? 3=some i∧i.size=1:=by
 have h:(match Tryz.prog.underlying 22,Tryz.prog.info? 3 with | some (.array 5 3),some i=>i.size == 1 | _,_=>false)=true:=by kernel_rfl
 split at h
 ·rename_i i e1 e2
  exact ⟨i,e1,e2,by simpa using h⟩
 ·cases h
theorem name13:Tryz.f13.name ≠ "runtime.NumGoroutine" := by
 have h:(Tryz.f13.name == "runtime.NumGoroutine")=false:=by kernel_rfl
 intro e
 rw [e] at h
 cases h
theorem body13:Tryz.f13.body≠none:=by
 have h:Tryz.f13.body.isNone=false:=by kernel_rfl
 intro e
 rw [e] at h
 cases h
theorem run_load1 {w:World} {b off ty:Nat} {x:Operand} {v:Value} {d:TypeDesc} (ho:o.op=.load ty x) (hx:a.eval x=.pointer (some ⟨b,off,none⟩)) (hc:w.cell? ⟨b,off,none⟩=some v) (hu:P.underlying ty=some d) (hd:d=.bool∨∃ k,d=.int k) :
  (execOp a.eval o).run P w=.ok (.value v) w:=by
 have h:(Instr.loadAt ty (.pointer (some ⟨b,off,none⟩))).run P w=.ok v w:=by
  have ha:(isAgg ty).run P w=.ok false w:=by
   rcases hd with rfl | ⟨k,rfl⟩
   ·exact isAgg_run (u:=.bool) hu trivial w
   ·exact isAgg_run (u:=.int k) hu rfl w
  simp [Instr.loadAt,Instr.sureAddr,loadVar,go_sem,ha,hc]
 simp only [execOp,ho,hx,Sem.run_bind,h,Result.andThen_ok,Sem.run_pure]
theorem run_idx1 {w:World} {b off t el n m:Nat} {x y:Operand} {i:TypeInfo} (ho:o.op=.indexAddr t x y) (hx:a.eval x=.pointer (some ⟨b,off,none⟩)) (hy:a.eval y=.int .i64 (m:Nat)) (hd:P.underlying t=some (.array n el)) (hi:P.info? el=some i) (hs:i.size=1) (hm:m<n) :
  (execOp a.eval o).run P w=.ok (.value (.pointer (some ⟨b,off+m,none⟩))) w:=by
 have h:=idx_arr (P:=P) (p:=⟨b,off,none⟩) (k:=.i64) hd hi hm w
 have e:(Addr.add ⟨b,off,none⟩ (m*i.size))=⟨b,off+m,none⟩:=by
  rw [hs,Nat.mul_one]
  exact In.add_at rfl m
 rw [e] at h
 simp only [execOp,ho,hx,hy,Sem.run_bind,h,Result.andThen_ok,Sem.run_pure]
end Mc
end
end Go.Proofs.YtdgejnakakjgfaaGreatDoor
