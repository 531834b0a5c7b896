/- The policy; ranks; sets. Numbers that are used once. How far, how fast; sticks; numbers that are used once. The setpoint's step. Printed by gen_f.py. The core under the symbolic executor: what facts and slices mean; the contracts of rules and limits. Who is there, as what: On and Role only read. PRINTED by gen_ud.py. The core under the symbolic executor: pure functions, readers. -/
import Derived.Test.YtdgejnakakjgfaaGreatDoorR07
import Derived.Test.YtdgejnakakjgfaaGreatDoorR06
import Derived.LoopN
import Derived.Laws.StructEq
import Derived.Outline
import Derived.Deep.QuietTactic
import Derived.BigQuiet
set_option linter.unusedVariables false
set_option linter.unusedSimpArgs false
set_option maxRecDepth 100000
namespace Go.Proofs.YtdgejnakakjgfaaGreatDoor
section
open Go.RowKit
def pI (pc:Array Value) (i:Nat):Int:=match pc[i]? with | some (.int .i64 n)=>n | _=>0
def PolOk (pc:Array Value):Prop:=pc.size=56∧∀ i,i<56→(i<5∨9≤i)→pc[i]?=some (.int .i64 (pI pc i))
theorem PolOk.at_ {pc:Array Value} (h:PolOk pc) (i:Nat) (h1:i<56) (h2:i<5∨9≤i):pc[i]?=some (.int .i64 (pI pc i)):=h.2 i h1 h2
def rankOf (o0 o1 o2 o3 o4 s:Int):Int:=if o0=s then 0 else if o1=s then 1 else if o2=s then 2 else if o3=s then 3 else if o4=s then 4 else -1
def rank (pc:Array Value) (s:Int):Int:=rankOf (pI pc 0) (pI pc 1) (pI pc 2) (pI pc 3) (pI pc 4) s
set_option maxHeartbeats 1000000 in
theorem place_any (o0 o1 o2 o3 o4 s:Int) (w:World):Calls Tryz.prog 233 #[.agg #[.int .i64 o0,.int .i64 o1,.int .i64 o2,.int .i64 o3,.int .i64 o4],.int .i64 s] w fun e w'=>e=.returned (.int .i64 (rankOf o0 o1 o2 o3 o4 s))∧w'=w.alloc (.cells #[.int .i64 o0,.int .i64 o1,.int .i64 o2,.int .i64 o3,.int .i64 o4] 328):=by
 have i0:∀ w,(Instr.index 328 (.agg #[.int .i64 o0,.int .i64 o1,.int .i64 o2,.int .i64 o3,.int .i64 o4]) (.int .i64 0)).run Tryz.prog w=.ok (.int .i64 o0) w:=fun _=>by kernel_rfl
 have i1:∀ w,(Instr.index 328 (.agg #[.int .i64 o0,.int .i64 o1,.int .i64 o2,.int .i64 o3,.int .i64 o4]) (.int .i64 1)).run Tryz.prog w=.ok (.int .i64 o1) w:=fun _=>by kernel_rfl
 have i2:∀ w,(Instr.index 328 (.agg #[.int .i64 o0,.int .i64 o1,.int .i64 o2,.int .i64 o3,.int .i64 o4]) (.int .i64 2)).run Tryz.prog w=.ok (.int .i64 o2) w:=fun _=>by kernel_rfl
 have i3:∀ w,(Instr.index 328 (.agg #[.int .i64 o0,.int .i64 o1,.int .i64 o2,.int .i64 o3,.int .i64 o4]) (.int .i64 3)).run Tryz.prog w=.ok (.int .i64 o3) w:=fun _=>by kernel_rfl
 have i4:∀ w,(Instr.index 328 (.agg #[.int .i64 o0,.int .i64 o1,.int .i64 o2,.int .i64 o3,.int .i64 o4]) (.int .i64 4)).run Tryz.prog w=.ok (.int .i64 o4) w:=fun _=>by kernel_rfl
 by_cases h0:o0=s
 ·have e:rankOf o0 o1 o2 o3 o4 s=0:=by unfold rankOf; rw [if_pos h0]
  have b0:(o0 == s)=true:=by simpa using h0
  rw [e]
  clear e h0
  go_enter Tryz.func233,Tryz.ntmps233
  go_wp2
  refine wp_loop_rounds 5 ?_
  rw [rounds_succ]
  go_wp2
  go_ret
  exact ⟨rfl,rfl⟩
 ·have b0:(o0 == s)=false:=by simpa using h0
  by_cases h1:o1=s
  ·have e:rankOf o0 o1 o2 o3 o4 s=1:=by unfold rankOf; rw [if_neg h0,if_pos h1]
   have b1:(o1 == s)=true:=by simpa using h1
   rw [e]
   clear e h0 h1
   go_enter Tryz.func233,Tryz.ntmps233
   go_wp2
   refine wp_loop_rounds 5 ?_
   rw [rounds_succ]
   go_wp2
   rw [rounds_succ]
   go_wp2
   go_ret
   exact ⟨rfl,rfl⟩
  ·have b1:(o1 == s)=false:=by simpa using h1
   by_cases h2:o2=s
   ·have e:rankOf o0 o1 o2 o3 o4 s=2:=by unfold rankOf; rw [if_neg h0,if_neg h1,if_pos h2]
    have b2:(o2 == s)=true:=by simpa using h2
    rw [e]
    clear e h0 h1 h2
    go_enter Tryz.func233,Tryz.ntmps233
    go_wp2
    refine wp_loop_rounds 5 ?_
    rw [rounds_succ]
    go_wp2
    rw [rounds_succ]
    go_wp2
    rw [rounds_succ]
    go_wp2
    go_ret
    exact ⟨rfl,rfl⟩
   ·have b2:(o2 == s)=false:=by simpa using h2
    by_cases h3:o3=s
    ·have e:rankOf o0 o1 o2 o3 o4 s=3:=by unfold rankOf; rw [if_neg h0,if_neg h1,if_neg h2,if_pos h3]
     have b3:(o3 == s)=true:=by simpa using h3
     rw [e]
     clear e h0 h1 h2 h3
     go_enter Tryz.func233,Tryz.ntmps233
     go_wp2
     refine wp_loop_rounds 5 ?_
     rw [rounds_succ]
     go_wp2
     rw [rounds_succ]
     go_wp2
     rw [rounds_succ]
     go_wp2
     rw [rounds_succ]
     go_wp2
     go_ret
     exact ⟨rfl,rfl⟩
    ·have b3:(o3 == s)=false:=by simpa using h3
     by_cases h4:o4=s
     ·have e:rankOf o0 o1 o2 o3 o4 s=4:=by unfold rankOf; rw [if_neg h0,if_neg h1,if_neg h2,if_neg h3,if_pos h4]
      have b4:(o4 == s)=true:=by simpa using h4
      rw [e]
      clear e h0 h1 h2 h3 h4
      go_enter Tryz.func233,Tryz.ntmps233
      go_wp2
      refine wp_loop_rounds 5 ?_
      rw [rounds_succ]
      go_wp2
      rw [rounds_succ]
      go_wp2
      rw [rounds_succ]
      go_wp2
      rw [rounds_succ]
      go_wp2
      rw [rounds_succ]
      go_wp2
      go_ret
      exact ⟨rfl,rfl⟩
     ·have b4:(o4 == s)=false:=by simpa using h4
      have e:rankOf o0 o1 o2 o3 o4 s=-1:=by unfold rankOf; rw [if_neg h0,if_neg h1,if_neg h2,if_neg h3,if_neg h4]
      rw [e]
      clear e h0 h1 h2 h3 h4
      go_enter Tryz.func233,Tryz.ntmps233
      go_wp2
      refine wp_loop_rounds 6 ?_
      rw [rounds_succ]
      go_wp2
      rw [rounds_succ]
      go_wp2
      rw [rounds_succ]
      go_wp2
      rw [rounds_succ]
      go_wp2
      rw [rounds_succ]
      go_wp2
      rw [rounds_succ]
      go_wp2
      go_ret
      exact ⟨rfl,rfl⟩
theorem place_n (o0 o1 o2 o3 o4 s r:Int) (w:World) (h:rankOf o0 o1 o2 o3 o4 s=r):Calls Tryz.prog 233 #[.agg #[.int .i64 o0,.int .i64 o1,.int .i64 o2,.int .i64 o3,.int .i64 o4],.int .i64 s] w fun e w'=>e=.returned (.int .i64 r)∧w'=w.alloc (.cells #[.int .i64 o0,.int .i64 o1,.int .i64 o2,.int .i64 o3,.int .i64 o4] 328):=by
 rw [← h]; exact place_any o0 o1 o2 o3 o4 s w
set_option maxHeartbeats 1000000 in
theorem rank_any (pc:Array Value) (s:Int) (w:World) (hp:PolOk pc):Calls Tryz.prog 206 #[.agg pc,.int .i64 s] w fun e w'=>e=.returned (.int .i64 (rank pc s))∧Below w.heap.size w w':=by
 have p0:=hp.at_ 0 (by omega) (by omega)
 have p1:=hp.at_ 1 (by omega) (by omega)
 have p2:=hp.at_ 2 (by omega) (by omega)
 have p3:=hp.at_ 3 (by omega) (by omega)
 have p4:=hp.at_ 4 (by omega) (by omega)
 clear hp
 go_enter Tryz.func206,Tryz.ntmps206
 go_wp2_with (go_at_call 233; (with_reducible refine (place_any (pI pc 0) (pI pc 1) (pI pc 2) (pI pc 3) (pI pc 4) s _).mono ?_); rintro e w' ⟨rfl,rfl⟩)
 go_ret
 exact ⟨rfl,by (repeat (first | (with_reducible assumption) | (with_reducible refine below_set ?_ _ _ (by simp)) | (with_reducible refine below_al ?_ _) | (with_reducible refine below_dr ?_) | (with_reducible exact Below.refl _ _) | (with_reducible refine bel_call ?_ (by assumption))))⟩
def higher (pc:Array Value) (a b:Int):Bool:=decide (0≤rank pc a∧0≤rank pc b∧rank pc a<rank pc b)
theorem rank_ge (pc:Array Value) (s:Int):-1≤rank pc s∧rank pc s≤4:=by
 unfold rank rankOf
 repeat (first | split | omega)
 all_goals omega
set_option maxHeartbeats 4000000 in
theorem higher_any (pc:Array Value) (a b:Int) (w:World) (hp:PolOk pc):Calls Tryz.prog 204 #[.agg pc,.int .i64 a,.int .i64 b] w fun e w'=>e=.returned (.bool (higher pc a b))∧Below w.heap.size w w':=by
 have p0:=hp.at_ 0 (by omega) (by omega)
 have p1:=hp.at_ 1 (by omega) (by omega)
 have p2:=hp.at_ 2 (by omega) (by omega)
 have p3:=hp.at_ 3 (by omega) (by omega)
 have p4:=hp.at_ 4 (by omega) (by omega)
 have hra:=rank_ge pc a
 have hrb:=rank_ge pc b
 clear hp
 obtain ⟨ra,ha⟩:∃ ra,rank pc a=ra:=⟨_,rfl⟩
 obtain ⟨rb,hb⟩:∃ rb,rank pc b=rb:=⟨_,rfl⟩
 rw [ha] at hra
 rw [hb] at hrb
 have HA:=Lib.hid (fun w=>place_n (pI pc 0) (pI pc 1) (pI pc 2) (pI pc 3) (pI pc 4) a ra w ha)
 have HB:=Lib.hid (fun w=>place_n (pI pc 0) (pI pc 1) (pI pc 2) (pI pc 3) (pI pc 4) b rb w hb)
 have he:higher pc a b=decide (0≤ra∧0≤rb∧ra<rb):=by unfold higher; rw [ha,hb]
 rw [he]
 clear he ha hb
 go_enter Tryz.func204,Tryz.ntmps204
 go_wp2
 go_region_with (first
  | (go_at_call 233; (with_reducible refine (HA.out _).mono ?_); rintro e w' ⟨rfl,rfl⟩)
  | (go_at_call 233; (with_reducible refine (HB.out _).mono ?_); rintro e w' ⟨rfl,rfl⟩))
 all_goals
  by_cases h1:ra=-1
  ·have b1:(ra != -1)=false:=by simpa using h1
   have HD:=Lib.hid (show decide (0≤ra∧0≤rb∧ra<rb)=false from decide_eq_false (fun x=>by omega))
   clear h1
   go_wp2
   go_ret
   exact ⟨by rw [HD.out]; rfl,by (repeat (first | (with_reducible assumption) | (with_reducible refine below_set ?_ _ _ (by simp)) | (with_reducible refine below_al ?_ _) | (with_reducible refine below_dr ?_) | (with_reducible exact Below.refl _ _) | (with_reducible refine bel_call ?_ (by assumption))))⟩
  ·have b1:(ra != -1)=true:=by simpa using h1
   by_cases h2:rb=-1
   ·have b2:(rb != -1)=false:=by simpa using h2
    have HD:=Lib.hid (show decide (0≤ra∧0≤rb∧ra<rb)=false from decide_eq_false (fun x=>by omega))
    clear h1 h2
    go_wp2
    go_ret
    exact ⟨by rw [HD.out]; rfl,by (repeat (first | (with_reducible assumption) | (with_reducible refine below_set ?_ _ _ (by simp)) | (with_reducible refine below_al ?_ _) | (with_reducible refine below_dr ?_) | (with_reducible exact Below.refl _ _) | (with_reducible refine bel_call ?_ (by assumption))))⟩
   ·have b2:(rb != -1)=true:=by simpa using h2
    have hd:decide (0≤ra∧0≤rb∧ra<rb)=decide (ra<rb):=by
     by_cases h:ra<rb
     ·rw [decide_eq_true h,decide_eq_true ⟨by omega,by omega,h⟩]
     ·rw [decide_eq_false h,decide_eq_false (fun x=>h x.2.2)]
    have HD:=Lib.hid hd
    clear h1 h2 hd
    go_wp2
    go_ret
    exact ⟨by rw [HD.out]; rfl,by (repeat (first | (with_reducible assumption) | (with_reducible refine below_set ?_ _ _ (by simp)) | (with_reducible refine below_al ?_ _) | (with_reducible refine below_dr ?_) | (with_reducible exact Below.refl _ _) | (with_reducible refine bel_call ?_ (by assumption))))⟩
def hasN (m i:Nat):Bool:=decide (m / 2 ^ i % 2=1)
theorem has_bits:∀ m:Nat,m<32→∀ i:Nat,i<5→(bits BinOp.and IntKind.i64 ((m:Int) / 2 ^ i) 1 == 1)=hasN m i:=by decide +kernel
theorem has_any (m i:Nat) (w:World) (hm:m<32) (hi:i<5):Calls Tryz.prog 149 #[.int .i64 m,.int .i64 i] w fun e w'=>e=.returned (.bool (hasN m i))∧w=w':=by
 have HB:=Lib.hid (has_bits m hm i hi)
 go_enter Tryz.func149,Tryz.ntmps149
 go_wp2
 go_ret
 exact ⟨by rw [← HB.out]; rfl,rfl⟩
def PolSets (pc:Array Value):Prop:=(∀ s,s<5→∃ m:Nat,m<32∧pI pc (9+s)=m)∧(∀ j,j<20→∃ m:Nat,m<32∧pI pc (14+j)=m)∧(∀ j,j<5→∃ m:Nat,m<32∧pI pc (34+j)=m)
def takes (pc:Array Value) (s r:Int):Bool:=decide (0≤s∧s<5∧0≤r∧r<4)&&hasN (pI pc (9+s.toNat)).toNat r.toNat
set_option maxHeartbeats 1000000 in
theorem takes_any (pc:Array Value) (s r:Int) (w:World) (hp:PolOk pc) (hs:PolSets pc):Calls Tryz.prog 102 #[.agg pc,.int .i64 s,.int .i64 r] w fun e w'=>e=.returned (.bool (takes pc s r))∧Below w.heap.size w w':=by
 by_cases h:0≤s∧s<5∧0≤r∧r<4
 ·obtain ⟨k,rfl⟩:∃ k:Nat,s=k:=⟨s.toNat,by omega⟩
  obtain ⟨i,rfl⟩:∃ i:Nat,r=i:=⟨r.toNat,by omega⟩
  have hk:k<5:=by omega
  have hi:i<4:=by omega
  obtain ⟨m,hm,hpi⟩:=hs.1 k hk
  have p1:=hp.at_ (9+k) (by omega) (by omega)
  rw [hpi] at p1
  have e:takes pc k i=hasN m i:=by unfold takes; rw [decide_eq_true h]; simp [hpi]
  have HE:=Lib.hid e
  have d1:decide ((0:Int)≤k∧(k:Int)<5)=true:=decide_eq_true (by omega)
  have d2:decide ((0:Int)≤i∧(i:Int)<4)=true:=decide_eq_true (by omega)
  have HB1:=Lib.hid (fun w=>(d1 ▸ below_fn k 5 w:Calls Tryz.prog 148 #[.int .i64 k,.int .i64 5] w fun e w'=>e=.returned (.bool true)∧w=w'))
  have HB2:=Lib.hid (fun w=>(d2 ▸ below_fn i 4 w:Calls Tryz.prog 148 #[.int .i64 i,.int .i64 4] w fun e w'=>e=.returned (.bool true)∧w=w'))
  clear e h hp hs hpi d1 d2
  go_enter Tryz.func102,Tryz.ntmps102
  go_wp2_with (first
   | (go_at_call 148; (with_reducible refine (HB1.out _).mono ?_); rintro e w' ⟨rfl,rfl⟩)
   | (go_at_call 148; (with_reducible refine (HB2.out _).mono ?_); rintro e w' ⟨rfl,rfl⟩)
   | (go_at_call 149; (with_reducible refine (has_any m i _ hm (by omega)).mono ?_); rintro e w' ⟨rfl,rfl⟩))
  go_ret
  exact ⟨by rw [HE.out]; rfl,by (repeat (first | (with_reducible assumption) | (with_reducible refine below_set ?_ _ _ (by simp)) | (with_reducible refine below_al ?_ _) | (with_reducible refine below_dr ?_) | (with_reducible exact Below.refl _ _) | (with_reducible refine bel_call ?_ (by assumption))))⟩
 ·have e:takes pc s r=false:=by unfold takes; rw [decide_eq_false h]; rfl
  have HE:=Lib.hid e
  clear e hp hs
  by_cases h1:0≤s∧s<5
  ·obtain ⟨h1,h1'⟩:=h1
   have h2:¬ (0≤r∧r<4):=fun x=>h ⟨h1,h1',x.1,x.2⟩
   clear h
   have d1:decide (0≤s∧s<5)=true:=decide_eq_true ⟨h1,h1'⟩
   have d2:decide (0≤r∧r<4)=false:=decide_eq_false h2
   have HB1:=Lib.hid (fun w=>(d1 ▸ below_fn s 5 w:Calls Tryz.prog 148 #[.int .i64 s,.int .i64 5] w fun e w'=>e=.returned (.bool true)∧w=w'))
   have HB2:=Lib.hid (fun w=>(d2 ▸ below_fn r 4 w:Calls Tryz.prog 148 #[.int .i64 r,.int .i64 4] w fun e w'=>e=.returned (.bool false)∧w=w'))
   clear h1 h1' h2 d1 d2
   go_enter Tryz.func102,Tryz.ntmps102
   go_wp2_with (first
    | (go_at_call 148; (with_reducible refine (HB1.out _).mono ?_); rintro e w' ⟨rfl,rfl⟩)
    | (go_at_call 148; (with_reducible refine (HB2.out _).mono ?_); rintro e w' ⟨rfl,rfl⟩))
   go_ret
   exact ⟨by rw [HE.out]; rfl,by (repeat (first | (with_reducible assumption) | (with_reducible refine below_set ?_ _ _ (by simp)) | (with_reducible refine below_al ?_ _) | (with_reducible refine below_dr ?_) | (with_reducible exact Below.refl _ _) | (with_reducible refine bel_call ?_ (by assumption))))⟩
  ·have d1:decide (0≤s∧s<5)=false:=decide_eq_false h1
   have HB1:=Lib.hid (fun w=>(d1 ▸ below_fn s 5 w:Calls Tryz.prog 148 #[.int .i64 s,.int .i64 5] w fun e w'=>e=.returned (.bool false)∧w=w'))
   clear h1 h d1
   go_enter Tryz.func102,Tryz.ntmps102
   go_wp2_with (go_at_call 148; (with_reducible refine (HB1.out _).mono ?_); rintro e w' ⟨rfl,rfl⟩)
   go_ret
   exact ⟨by rw [HE.out]; rfl,by (repeat (first | (with_reducible assumption) | (with_reducible refine below_set ?_ _ _ (by simp)) | (with_reducible refine below_al ?_ _) | (with_reducible refine below_dr ?_) | (with_reducible exact Below.refl _ _) | (with_reducible refine bel_call ?_ (by assumption))))⟩
def SomeBool (pc:Array Value) (w:World) (e:Ending) (w':World):Prop:=∃ b,e=.returned (.bool b)∧w'=w.alloc (.cells pc 28)
theorem below_t (n b:Int) (w:World) (h:0≤n∧n<b):Calls Tryz.prog 148 #[.int .i64 n,.int .i64 b] w fun e w'=>e=.returned (.bool true)∧w=w':=by
 have:=below_fn n b w
 rw [decide_eq_true h] at this
 exact this
set_option maxHeartbeats 1000000 in
theorem may_any (pc:Array Value) (md r c:Nat) (w:World) (hp:PolOk pc) (hs:PolSets pc) (h1:md<5) (h2:r<4) (h3:c<4):Calls Tryz.prog 168 #[.agg pc,.int .i64 md,.int .i64 r,.int .i64 c] w (SomeBool pc w):=by
 obtain ⟨m,hm,hpi⟩:=hs.2.1 (4*md+r) (by omega)
 have p1:=hp.at_ (14+md*4+r) (by omega) (by omega)
 rw [show 14+md*4+r=14+(4*md+r) by omega,hpi,show 14+(4*md+r)=14+md*4+r by omega] at p1
 have HB1:=Lib.hid (fun w=>below_t md 5 w (by omega))
 have HB2:=Lib.hid (fun w=>below_t r 4 w (by omega))
 have HB3:=Lib.hid (fun w=>below_t c 4 w (by omega))
 clear hp hs hpi
 go_enter Tryz.func168,Tryz.ntmps168
 go_wp2_with (first
  | (go_at_call 148; (with_reducible refine (HB1.out _).mono ?_); rintro e w' ⟨rfl,rfl⟩)
  | (go_at_call 148; (with_reducible refine (HB2.out _).mono ?_); rintro e w' ⟨rfl,rfl⟩)
  | (go_at_call 148; (with_reducible refine (HB3.out _).mono ?_); rintro e w' ⟨rfl,rfl⟩)
  | (go_at_call 149; (with_reducible refine (has_any m c _ hm (by omega)).mono ?_); rintro e w' ⟨rfl,rfl⟩))
 go_ret
 exact ⟨_,rfl,rfl⟩
set_option maxHeartbeats 1000000 in
theorem goes_any (pc:Array Value) (f t:Nat) (w:World) (hp:PolOk pc) (hs:PolSets pc) (h1:f<5) (h2:t<5):Calls Tryz.prog 169 #[.agg pc,.int .i64 f,.int .i64 t] w (SomeBool pc w):=by
 obtain ⟨m,hm,hpi⟩:=hs.2.2 f (by omega)
 have p1:=hp.at_ (34+f) (by omega) (by omega)
 rw [hpi] at p1
 have HB1:=Lib.hid (fun w=>below_t f 5 w (by omega))
 have HB2:=Lib.hid (fun w=>below_t t 5 w (by omega))
 clear hp hs hpi
 go_enter Tryz.func169,Tryz.ntmps169
 go_wp2_with (first
  | (go_at_call 148; (with_reducible refine (HB1.out _).mono ?_); rintro e w' ⟨rfl,rfl⟩)
  | (go_at_call 148; (with_reducible refine (HB2.out _).mono ?_); rintro e w' ⟨rfl,rfl⟩)
  | (go_at_call 149; (with_reducible refine (has_any m t _ hm (by omega)).mono ?_); rintro e w' ⟨rfl,rfl⟩))
 go_ret
 exact ⟨_,rfl,rfl⟩
end
section
open Go.RowKit
theorem shl_some (k k2:IntKind) (x y:Int) (h:0≤y):∃ v:Int,∀ w,(Op.shift BinOp.shl k x k2 y).run Tryz.prog w=.ok (.int k v) w :=
 ⟨_,fun w=>by unfold Op.shift; rw [if_neg (by omega)]; rfl⟩
def SomeWin (w:World) (e:Ending) (w':World):Prop:=∃ (a:Bool) (h s:Int),e=.returned (.agg #[.bool a,.int .i64 h,.int .u64 s])∧0≤h∧h≤4294967295∧Below w.heap.size w w'
def SomeWinB (w:World) (e:Ending) (w':World):Prop:=∃ (a:Bool) (h s:Int) (f:Bool),e=.returned (.tuple #[.agg #[.bool a,.int .i64 h,.int .u64 s],.bool f])∧0≤h∧h≤4294967295∧Below w.heap.size w w'
set_option maxHeartbeats 2000000 in
theorem seen_any (a:Bool) (h s n:Int) (w:World) (h1:0≤h) (h2:h≤4294967295):Calls Tryz.prog 159 #[.agg #[.bool a,.int .i64 h,.int .u64 s],.int .i64 n] w (SomeWin w):=by
 by_cases hn:0≤n∧n≤4294967295
 ·obtain ⟨hn1,hn2⟩:=hn
  cases a
  ·go_enter Tryz.func159,Tryz.ntmps159
   go_wp2
   exact bodyPost_ret (v:=.agg #[.bool true,.int .i64 n,.int .u64 1]) (by simp [results,Tryz.results159,go_sem]) rfl ⟨_,_,_,rfl,hn1,hn2,by (repeat (first | (with_reducible assumption) | (with_reducible refine below_set ?_ _ _ (by simp)) | (with_reducible refine below_al ?_ _) | (with_reducible refine below_dr ?_) | (with_reducible exact Below.refl _ _) | (with_reducible refine bel_call ?_ (by assumption))))⟩
  ·by_cases hg:h<n
   ·obtain ⟨x,hx⟩:=shl_some .u64 .u64 s (n - h) (by omega)
    go_enter Tryz.func159,Tryz.ntmps159
    go_wp2
    exact bodyPost_ret (v:=.agg #[.bool true,.int .i64 n,.int .u64 (bits BinOp.or IntKind.u64 x 1)]) (by simp [results,Tryz.results159,go_sem]) rfl ⟨_,_,_,rfl,hn1,hn2,by (repeat (first | (with_reducible assumption) | (with_reducible refine below_set ?_ _ _ (by simp)) | (with_reducible refine below_al ?_ _) | (with_reducible refine below_dr ?_) | (with_reducible exact Below.refl _ _) | (with_reducible refine bel_call ?_ (by assumption))))⟩
   ·by_cases hd:h - n<64
    ·obtain ⟨x,hx⟩:=shl_some .u64 .i64 1 (h - n) (by omega)
     go_enter Tryz.func159,Tryz.ntmps159
     go_wp2
     go_region
     all_goals
      go_wp2
      exact bodyPost_ret (v:=.agg #[.bool true,.int .i64 h,.int .u64 (bits BinOp.or IntKind.u64 s (IntKind.u64.wrap (2 ^ (h - n).toNat)))]) (by simp [results,Tryz.results159,go_sem]) rfl ⟨_,_,_,rfl,h1,h2,by (repeat (first | (with_reducible assumption) | (with_reducible refine below_set ?_ _ _ (by simp)) | (with_reducible refine below_al ?_ _) | (with_reducible refine below_dr ?_) | (with_reducible exact Below.refl _ _) | (with_reducible refine bel_call ?_ (by assumption))))⟩
    ·go_enter Tryz.func159,Tryz.ntmps159
     go_wp2
     exact bodyPost_ret (v:=.agg #[.bool true,.int .i64 h,.int .u64 s]) (by simp [results,Tryz.results159,go_sem]) rfl ⟨_,_,_,rfl,h1,h2,by (repeat (first | (with_reducible assumption) | (with_reducible refine below_set ?_ _ _ (by simp)) | (with_reducible refine below_al ?_ _) | (with_reducible refine below_dr ?_) | (with_reducible exact Below.refl _ _) | (with_reducible refine bel_call ?_ (by assumption))))⟩
 ·by_cases h0:n<0
  ·go_enter Tryz.func159,Tryz.ntmps159
   go_wp2
   exact bodyPost_ret (v:=.agg #[.bool a,.int .i64 h,.int .u64 s]) (by simp [results,Tryz.results159,go_sem]) rfl ⟨_,_,_,rfl,h1,h2,by (repeat (first | (with_reducible assumption) | (with_reducible refine below_set ?_ _ _ (by simp)) | (with_reducible refine below_al ?_ _) | (with_reducible refine below_dr ?_) | (with_reducible exact Below.refl _ _) | (with_reducible refine bel_call ?_ (by assumption))))⟩
  ·have hgt:4294967295<n:=by omega
   clear hn
   go_enter Tryz.func159,Tryz.ntmps159
   go_wp2
   exact bodyPost_ret (v:=.agg #[.bool a,.int .i64 h,.int .u64 s]) (by simp [results,Tryz.results159,go_sem]) rfl ⟨_,_,_,rfl,h1,h2,by (repeat (first | (with_reducible assumption) | (with_reducible refine below_set ?_ _ _ (by simp)) | (with_reducible refine below_al ?_ _) | (with_reducible refine below_dr ?_) | (with_reducible exact Below.refl _ _) | (with_reducible refine bel_call ?_ (by assumption))))⟩
theorem eqW (a a':Bool) (h h' s s':Int) (w:World):(Op.equalIn 10000 140 (.agg #[.bool a,.int .i64 h,.int .u64 s]) (.agg #[.bool a',.int .i64 h',.int .u64 s'])).run Tryz.prog w=.ok (a == a'&&(h == h'&&s == s')) w:=by
 have e0:∀ w,(Op.equalIn 9999 4 (.bool a) (.bool a')).run Tryz.prog w=.ok (a == a') w:=fun w=>run_equalIn_bool' w 9998 4 a a' Tryz.underlying4
 have e1:∀ w,(Op.equalIn 9999 3 (.int .i64 h) (.int .i64 h')).run Tryz.prog w=.ok (h == h') w:=fun w=>run_equalIn_int w 9998 3 .i64 .i64 h h' Tryz.underlying3
 have e2:∀ w,(Op.equalIn 9999 134 (.int .u64 s) (.int .u64 s')).run Tryz.prog w=.ok (s == s') w:=fun w=>run_equalIn_int w 9998 134 .u64 .u64 s s' Tryz.underlying134
 rw [show (10000:Nat)=9999+1 from rfl,run_equalIn_struct w 9999 140 _ _ (by kernel_rfl) (by kernel_rfl)]
 simp [Program.fieldsOf,Tryz.underlying140,Op.eqFields,part,isAgg,run_underlying Tryz.underlying3,run_underlying Tryz.underlying4,run_underlying Tryz.underlying134,Sem.run_bind,e0,e1,e2]
 by_cases ha:a=a' <;> by_cases hh:h=h' <;> by_cases hs:s=s' <;> simp [ha,hh,hs]
set_option maxHeartbeats 2000000 in
theorem see_any (a:Bool) (h s n:Int) (w:World) (h1:0≤h) (h2:h≤4294967295):Calls Tryz.prog 109 #[.agg #[.bool a,.int .i64 h,.int .u64 s],.int .i64 n] w (SomeWinB w):=by
 have hE:=eqW
 go_enter Tryz.func109,Tryz.ntmps109
 go_wp2_with (
  go_at_call 159
  (with_reducible refine (seen_any a h s n _ h1 h2).mono ?_); rintro e w1 ⟨a1,h1',s1,rfl,hl,hu,hb1⟩
  obtain ⟨hc,hf⟩:=bcell hb1
  have hz:=hb1.size
  simp at hz
  have hz0:w.heap.size<w1.heap.size:=(by omega)
  have hz1:w.heap.size+1<w1.heap.size:=(by omega)
  have q0:w1.cell? ⟨w.heap.size,0,none⟩=some (.bool a):=(hc _ _ (by simp <;> omega)).trans (by simp [go_sem])
  have q1:w1.cell? ⟨w.heap.size,1,none⟩=some (.int .i64 h):=(hc _ _ (by simp <;> omega)).trans (by simp [go_sem])
  have q2:w1.cell? ⟨w.heap.size,2,none⟩=some (.int .u64 s):=(hc _ _ (by simp <;> omega)).trans (by simp [go_sem])
  have r0:w1.cell? ⟨w.heap.size+1,0,none⟩=some (.bool false):=(hc _ _ (by simp <;> omega)).trans (by simp [go_sem])
  have r1:w1.cell? ⟨w.heap.size+1,1,none⟩=some (.int .i64 0):=(hc _ _ (by simp <;> omega)).trans (by simp [go_sem])
  have r2:w1.cell? ⟨w.heap.size+1,2,none⟩=some (.int .u64 0):=(hc _ _ (by simp <;> omega)).trans (by simp [go_sem])
  have k1:∀ o,w1.frozen? ⟨w.heap.size+1,o,none⟩=false:=(fun o=>(hf _ _ (by simp <;> omega)).trans (by simp [go_sem]))
  clear hc hf)
 go_region
 all_goals
  go_wp2
  exact bodyPost_ret (v:=.tuple #[.agg #[.bool a1,.int .i64 h1',.int .u64 s1],.bool (!(a1 == a&&(h1' == h&&s1 == s)))]) (by simp [results,Tryz.results109,go_sem,r0,r1,r2,hz1]) rfl ⟨_,_,_,_,rfl,hl,hu,by (repeat (first | (with_reducible assumption) | (with_reducible refine below_set ?_ _ _ (by simp)) | (with_reducible refine below_al ?_ _) | (with_reducible refine below_dr ?_) | (with_reducible exact Below.refl _ _) | (with_reducible refine bel_call ?_ (by assumption))))⟩
end
section
open Go.RowKit
def toward (now tx by_:Int):Int:=if now≤tx then (if tx - now≤by_ then tx else now+by_) else (if now - tx≤by_ then tx else now - by_)
theorem toward_in (now tx by_ lo hi:Int) (h0:0≤by_) (h1:lo≤now) (h2:now≤hi) (h3:lo≤tx) (h4:tx≤hi):lo≤toward now tx by_∧toward now tx by_≤hi:=by
 unfold toward; split <;> split <;> omega
theorem u64_sub (a b:Int) (h0:0≤a - b) (h1:a - b<18446744073709551616):IntKind.u64.wrap (IntKind.u64.wrap a - IntKind.u64.wrap b)=a - b:=by
 simp only [IntKind.wrap_u64]
 omega
theorem toward_any (now tx by_:Int) (w:World) (h1:1≤by_) (h2:by_≤100000) (h3:-100000≤now) (h4:now≤100000) (h5:-100000≤tx) (h6:tx≤100000):Calls Tryz.prog 135 #[.int .i64 now,.int .i64 tx,.int .i64 by_] w fun e w'=>e=.returned (.int .i64 (toward now tx by_))∧w=w':=by
 by_cases h:now≤tx
 ·have hu:=u64_sub tx now (by omega) (by omega)
  by_cases hd:tx - now≤by_
  ·have e:toward now tx by_=tx:=by unfold toward; rw [if_pos h,if_pos hd]
   rw [e]
   clear e
   go_enter Tryz.func135,Tryz.ntmps135
   go_wp2
   go_ret
   exact ⟨rfl,rfl⟩
  ·have e:toward now tx by_=now+by_:=by unfold toward; rw [if_pos h,if_neg hd]
   rw [e]
   clear e
   go_enter Tryz.func135,Tryz.ntmps135
   go_wp2
   go_ret
   exact ⟨rfl,rfl⟩
 ·have hu:=u64_sub now tx (by omega) (by omega)
  by_cases hd:now - tx≤by_
  ·have e:toward now tx by_=tx:=by unfold toward; rw [if_neg h,if_pos hd]
   rw [e]
   clear e
   go_enter Tryz.func135,Tryz.ntmps135
   go_wp2
   go_ret
   exact ⟨rfl,rfl⟩
  ·have e:toward now tx by_=now - by_:=by unfold toward; rw [if_neg h,if_neg hd]
   rw [e]
   clear e
   go_enter Tryz.func135,Tryz.ntmps135
   go_wp2
   go_ret
   exact ⟨rfl,rfl⟩
def Pt.set (p:Pt) (pc:Array Value) (c:Nat) (x0 x1 x2 x3:Int) (l:Lb):Pt :=
 ⟨c,clamp x0 (-pI pc (50+c)) (pI pc (50+c)),clamp x1 (-pI pc (50+c)) (pI pc (50+c)),clamp x2 (-pI pc (50+c)) (pI pc (50+c)),clamp x3 (-pI pc (50+c)) (pI pc (50+c)),p.n0,p.n1,p.n2,p.n3,l⟩
set_option maxHeartbeats 4000000 in
theorem set_any (p:Pt) (pc:Array Value) (c:Nat) (x0 x1 x2 x3:Int) (l:Lb) (w:World) (hp:PolOk pc) (hc:c<4) (h1:0≤pI pc (50+c)) (h2:pI pc (50+c)≤1000) :
  Calls Tryz.prog 122 #[.agg pc,.agg #[.int .i64 p.cls,.int .i64 p.t0,.int .i64 p.t1,.int .i64 p.t2,.int .i64 p.t3,.int .i64 p.n0,.int .i64 p.n1,.int .i64 p.n2,.int .i64 p.n3,.int .i64 p.by_.rule,.int .i64 p.by_.src,.int .i64 p.by_.seq],.int .i64 c,.agg #[.int .i64 x0,.int .i64 x1,.int .i64 x2,.int .i64 x3],.agg #[.int .i64 l.rule,.int .i64 l.src,.int .i64 l.seq]] w fun e w'=>e=.returned (.agg #[.int .i64 (p.set pc c x0 x1 x2 x3 l).cls,.int .i64 (p.set pc c x0 x1 x2 x3 l).t0,.int .i64 (p.set pc c x0 x1 x2 x3 l).t1,.int .i64 (p.set pc c x0 x1 x2 x3 l).t2,.int .i64 (p.set pc c x0 x1 x2 x3 l).t3,.int .i64 (p.set pc c x0 x1 x2 x3 l).n0,.int .i64 (p.set pc c x0 x1 x2 x3 l).n1,.int .i64 (p.set pc c x0 x1 x2 x3 l).n2,.int .i64 (p.set pc c x0 x1 x2 x3 l).n3,.int .i64 (p.set pc c x0 x1 x2 x3 l).by_.rule,.int .i64 (p.set pc c x0 x1 x2 x3 l).by_.src,.int .i64 (p.set pc c x0 x1 x2 x3 l).by_.seq])∧Below w.heap.size w w':=by
 have p1:=hp.at_ (50+c) (by omega) (by omega)
 obtain ⟨m,hm⟩:∃ m,pI pc (50+c)=m:=⟨_,rfl⟩
 rw [hm] at p1 h1 h2
 have i0:∀ w,(Instr.index 25 (.agg #[.int .i64 x0,.int .i64 x1,.int .i64 x2,.int .i64 x3]) (.int .i64 0)).run Tryz.prog w=.ok (.int .i64 x0) w:=fun _=>by kernel_rfl
 have i1:∀ w,(Instr.index 25 (.agg #[.int .i64 x0,.int .i64 x1,.int .i64 x2,.int .i64 x3]) (.int .i64 1)).run Tryz.prog w=.ok (.int .i64 x1) w:=fun _=>by kernel_rfl
 have i2:∀ w,(Instr.index 25 (.agg #[.int .i64 x0,.int .i64 x1,.int .i64 x2,.int .i64 x3]) (.int .i64 2)).run Tryz.prog w=.ok (.int .i64 x2) w:=fun _=>by kernel_rfl
 have i3:∀ w,(Instr.index 25 (.agg #[.int .i64 x0,.int .i64 x1,.int .i64 x2,.int .i64 x3]) (.int .i64 3)).run Tryz.prog w=.ok (.int .i64 x3) w:=fun _=>by kernel_rfl
 have HM:=Lib.hid hm
 clear hp hm
 go_enter Tryz.func122,Tryz.ntmps122
 go_wp2
 refine wp_loop_rounds 5 ?_
 rw [rounds_succ]
 go_wp2_with (go_at_call 170; (with_reducible refine (clamp_any x0 (-m) m _).mono ?_); rintro e w' ⟨rfl,rfl⟩)
 rw [rounds_succ]
 go_wp2_with (go_at_call 170; (with_reducible refine (clamp_any x1 (-m) m _).mono ?_); rintro e w' ⟨rfl,rfl⟩)
 rw [rounds_succ]
 go_wp2_with (go_at_call 170; (with_reducible refine (clamp_any x2 (-m) m _).mono ?_); rintro e w' ⟨rfl,rfl⟩)
 rw [rounds_succ]
 go_wp2_with (go_at_call 170; (with_reducible refine (clamp_any x3 (-m) m _).mono ?_); rintro e w' ⟨rfl,rfl⟩)
 rw [rounds_succ]
 go_wp2
 exact bodyPost_ret (v:=.agg #[.int .i64 c,.int .i64 (clamp x0 (-m) m),.int .i64 (clamp x1 (-m) m),.int .i64 (clamp x2 (-m) m),.int .i64 (clamp x3 (-m) m),.int .i64 p.n0,.int .i64 p.n1,.int .i64 p.n2,.int .i64 p.n3,.int .i64 l.rule,.int .i64 l.src,.int .i64 l.seq]) (by simp [results,Tryz.results122,go_sem]) rfl ⟨by rw [← HM.out]; rfl,by (repeat (first | (with_reducible assumption) | (with_reducible refine below_set ?_ _ _ (by simp)) | (with_reducible refine below_al ?_ _) | (with_reducible refine below_dr ?_) | (with_reducible exact Below.refl _ _) | (with_reducible refine bel_call ?_ (by assumption))))⟩
def Pt.step (p:Pt) (r:Int):Pt :=
 ⟨p.cls,p.t0,p.t1,p.t2,p.t3,toward p.n0 p.t0 r,toward p.n1 p.t1 r,toward p.n2 p.t2 r,toward p.n3 p.t3 r,
  if toward p.n0 p.t0 r=p.n0∧toward p.n1 p.t1 r=p.n1∧toward p.n2 p.t2 r=p.n2∧toward p.n3 p.t3 r=p.n3 then p.by_ else { p.by_ with rule:=4 }⟩
end
section
open Go.RowKit
theorem size3 (w:World):(sizeOf 3).run Tryz.prog w=.ok 1 w:=by
 have h:(Tryz.prog.info? 3).map (·.size)=some 1:=by kernel_rfl
 cases hq:Tryz.prog.info? 3 with
 | none=>simp [hq] at h
 | some i=>simp [hq] at h; simp [sizeOf,typeInfo,hq,h]
theorem part3 (cs:Array Value) (i:Nat) (v:Value) (w:World) (h:cs[i]?=some v):(part 3 cs i).run Tryz.prog w=.ok v w:=by
 simp [part,isAgg,run_underlying Tryz.underlying3,h]
theorem eq4 (a0 a1 a2 a3 b0 b1 b2 b3:Int) (w:World):(Op.equalIn 10000 25 (.agg #[.int .i64 a0,.int .i64 a1,.int .i64 a2,.int .i64 a3]) (.agg #[.int .i64 b0,.int .i64 b1,.int .i64 b2,.int .i64 b3])).run Tryz.prog w =
  .ok (decide (a0=b0∧a1=b1∧a2=b2∧a3=b3)) w:=by
 have e3:∀ a b w,(Op.equalIn 9999 3 (.int .i64 a) (.int .i64 b)).run Tryz.prog w=.ok (a == b) w:=fun a b w=>run_equalIn_int w 9998 3 .i64 .i64 a b Tryz.underlying3
 rw [show (10000:Nat)=9999+1 from rfl,Op.equalIn]
 simp only [Sem.run_bind,run_underlying Tryz.underlying25,Result.andThen_ok,size3,Std.Legacy.Range.forIn_eq_forIn_range',Std.Legacy.Range.size,Nat.sub_zero,Nat.add_sub_cancel,Nat.div_one]
 have pa0:∀ w,(part 3 #[.int .i64 a0,.int .i64 a1,.int .i64 a2,.int .i64 a3] (0*1)).run Tryz.prog w=.ok (.int .i64 a0) w:=fun w=>part3 _ _ _ w rfl
 have pa1:∀ w,(part 3 #[.int .i64 a0,.int .i64 a1,.int .i64 a2,.int .i64 a3] (1*1)).run Tryz.prog w=.ok (.int .i64 a1) w:=fun w=>part3 _ _ _ w rfl
 have pa2:∀ w,(part 3 #[.int .i64 a0,.int .i64 a1,.int .i64 a2,.int .i64 a3] (2*1)).run Tryz.prog w=.ok (.int .i64 a2) w:=fun w=>part3 _ _ _ w rfl
 have pa3:∀ w,(part 3 #[.int .i64 a0,.int .i64 a1,.int .i64 a2,.int .i64 a3] (3*1)).run Tryz.prog w=.ok (.int .i64 a3) w:=fun w=>part3 _ _ _ w rfl
 have pb0:∀ w,(part 3 #[.int .i64 b0,.int .i64 b1,.int .i64 b2,.int .i64 b3] (0*1)).run Tryz.prog w=.ok (.int .i64 b0) w:=fun w=>part3 _ _ _ w rfl
 have pb1:∀ w,(part 3 #[.int .i64 b0,.int .i64 b1,.int .i64 b2,.int .i64 b3] (1*1)).run Tryz.prog w=.ok (.int .i64 b1) w:=fun w=>part3 _ _ _ w rfl
 have pb2:∀ w,(part 3 #[.int .i64 b0,.int .i64 b1,.int .i64 b2,.int .i64 b3] (2*1)).run Tryz.prog w=.ok (.int .i64 b2) w:=fun w=>part3 _ _ _ w rfl
 have pb3:∀ w,(part 3 #[.int .i64 b0,.int .i64 b1,.int .i64 b2,.int .i64 b3] (3*1)).run Tryz.prog w=.ok (.int .i64 b3) w:=fun w=>part3 _ _ _ w rfl
 rw [show List.range' 0 4=[0,1,2,3] from rfl]
 have hr:decide (a0=b0∧a1=b1∧a2=b2∧a3=b3)=(a0 == b0&&(a1 == b1&&(a2 == b2&&a3 == b3))):=by
  simp only [Bool.decide_and]; rfl
 rw [hr]
 simp only [List.forIn_cons,List.forIn_nil,Sem.run_bind,pa0,pb0,Result.andThen_ok,e3]
 generalize (a0 == b0)=c0
 cases c0
 ·rfl
 ·simp only [Bool.not_true,Bool.false_eq_true,if_false,Sem.run_pure,Result.andThen_ok,Sem.run_bind,pa1,pb1,e3,Bool.true_and]
  generalize (a1 == b1)=c1
  cases c1
  ·rfl
  ·simp only [Bool.not_true,Bool.false_eq_true,if_false,Sem.run_pure,Result.andThen_ok,Sem.run_bind,pa2,pb2,e3,Bool.true_and]
   generalize (a2 == b2)=c2
   cases c2
   ·rfl
   ·simp only [Bool.not_true,Bool.false_eq_true,if_false,Sem.run_pure,Result.andThen_ok,Sem.run_bind,pa3,pb3,e3,Bool.true_and]
    generalize (a3 == b3)=c3
    cases c3
    ·rfl
    ·rfl
def PRel (p:Pt) (pc:Array Value) (r:Int) (w:World) (k:Nat) (wr:World):Prop :=
 (k=0∧wr=((((w.alloc (.cells pc 28)).alloc (.cells #[.int .i64 p.cls,.int .i64 p.t0,.int .i64 p.t1,.int .i64 p.t2,.int .i64 p.t3,.int .i64 p.n0,.int .i64 p.n1,.int .i64 p.n2,.int .i64 p.n3,.int .i64 p.by_.rule,.int .i64 p.by_.src,.int .i64 p.by_.seq] 51)).alloc (.cells #[.int .i64 0,.int .i64 0,.int .i64 0,.int .i64 0,.int .i64 0,.int .i64 0,.int .i64 0,.int .i64 0,.int .i64 0,.int .i64 0,.int .i64 0,.int .i64 0] 51)).alloc (.cells #[.int .i64 p.n0,.int .i64 p.n1,.int .i64 p.n2,.int .i64 p.n3] 25))) ∨
 (k=1∧wr=((((w.alloc (.cells pc 28)).alloc (.cells #[.int .i64 p.cls,.int .i64 p.t0,.int .i64 p.t1,.int .i64 p.t2,.int .i64 p.t3,.int .i64 (toward p.n0 p.t0 r),.int .i64 p.n1,.int .i64 p.n2,.int .i64 p.n3,.int .i64 p.by_.rule,.int .i64 p.by_.src,.int .i64 p.by_.seq] 51)).alloc (.cells #[.int .i64 0,.int .i64 0,.int .i64 0,.int .i64 0,.int .i64 0,.int .i64 0,.int .i64 0,.int .i64 0,.int .i64 0,.int .i64 0,.int .i64 0,.int .i64 0] 51)).alloc (.cells #[.int .i64 p.n0,.int .i64 p.n1,.int .i64 p.n2,.int .i64 p.n3] 25)).drew) ∨
 (k=2∧wr=((((w.alloc (.cells pc 28)).alloc (.cells #[.int .i64 p.cls,.int .i64 p.t0,.int .i64 p.t1,.int .i64 p.t2,.int .i64 p.t3,.int .i64 (toward p.n0 p.t0 r),.int .i64 (toward p.n1 p.t1 r),.int .i64 p.n2,.int .i64 p.n3,.int .i64 p.by_.rule,.int .i64 p.by_.src,.int .i64 p.by_.seq] 51)).alloc (.cells #[.int .i64 0,.int .i64 0,.int .i64 0,.int .i64 0,.int .i64 0,.int .i64 0,.int .i64 0,.int .i64 0,.int .i64 0,.int .i64 0,.int .i64 0,.int .i64 0] 51)).alloc (.cells #[.int .i64 p.n0,.int .i64 p.n1,.int .i64 p.n2,.int .i64 p.n3] 25)).drew.drew) ∨
 (k=3∧wr=((((w.alloc (.cells pc 28)).alloc (.cells #[.int .i64 p.cls,.int .i64 p.t0,.int .i64 p.t1,.int .i64 p.t2,.int .i64 p.t3,.int .i64 (toward p.n0 p.t0 r),.int .i64 (toward p.n1 p.t1 r),.int .i64 (toward p.n2 p.t2 r),.int .i64 p.n3,.int .i64 p.by_.rule,.int .i64 p.by_.src,.int .i64 p.by_.seq] 51)).alloc (.cells #[.int .i64 0,.int .i64 0,.int .i64 0,.int .i64 0,.int .i64 0,.int .i64 0,.int .i64 0,.int .i64 0,.int .i64 0,.int .i64 0,.int .i64 0,.int .i64 0] 51)).alloc (.cells #[.int .i64 p.n0,.int .i64 p.n1,.int .i64 p.n2,.int .i64 p.n3] 25)).drew.drew.drew) ∨
 (k=4∧wr=((((w.alloc (.cells pc 28)).alloc (.cells #[.int .i64 p.cls,.int .i64 p.t0,.int .i64 p.t1,.int .i64 p.t2,.int .i64 p.t3,.int .i64 (toward p.n0 p.t0 r),.int .i64 (toward p.n1 p.t1 r),.int .i64 (toward p.n2 p.t2 r),.int .i64 (toward p.n3 p.t3 r),.int .i64 p.by_.rule,.int .i64 p.by_.src,.int .i64 p.by_.seq] 51)).alloc (.cells #[.int .i64 0,.int .i64 0,.int .i64 0,.int .i64 0,.int .i64 0,.int .i64 0,.int .i64 0,.int .i64 0,.int .i64 0,.int .i64 0,.int .i64 0,.int .i64 0] 51)).alloc (.cells #[.int .i64 p.n0,.int .i64 p.n1,.int .i64 p.n2,.int .i64 p.n3] 25)).drew.drew.drew.drew)
set_option maxHeartbeats 4000000 in
theorem pstep_any (p:Pt) (pc:Array Value) (w:World) (hp:PolOk pc) (h1:1≤pI pc 54) (h2:pI pc 54≤1000) (hb0:-1000≤p.t0∧p.t0≤1000∧-1000≤p.n0∧p.n0≤1000) (hb1:-1000≤p.t1∧p.t1≤1000∧-1000≤p.n1∧p.n1≤1000)
  (hb2:-1000≤p.t2∧p.t2≤1000∧-1000≤p.n2∧p.n2≤1000) (hb3:-1000≤p.t3∧p.t3≤1000∧-1000≤p.n3∧p.n3≤1000) :
  Calls Tryz.prog 90 #[.agg pc,.agg #[.int .i64 p.cls,.int .i64 p.t0,.int .i64 p.t1,.int .i64 p.t2,.int .i64 p.t3,.int .i64 p.n0,.int .i64 p.n1,.int .i64 p.n2,.int .i64 p.n3,.int .i64 p.by_.rule,.int .i64 p.by_.src,.int .i64 p.by_.seq]] w fun e w'=>e=.returned (.agg #[.int .i64 (p.step (pI pc 54)).cls,.int .i64 (p.step (pI pc 54)).t0,.int .i64 (p.step (pI pc 54)).t1,.int .i64 (p.step (pI pc 54)).t2,.int .i64 (p.step (pI pc 54)).t3,.int .i64 (p.step (pI pc 54)).n0,.int .i64 (p.step (pI pc 54)).n1,.int .i64 (p.step (pI pc 54)).n2,.int .i64 (p.step (pI pc 54)).n3,.int .i64 (p.step (pI pc 54)).by_.rule,.int .i64 (p.step (pI pc 54)).by_.src,.int .i64 (p.step (pI pc 54)).by_.seq])∧Below w.heap.size w w':=by
 have p1:=hp.at_ 54 (by omega) (by omega)
 obtain ⟨r,hr⟩:∃ r,pI pc 54=r:=⟨_,rfl⟩
 rw [hr] at p1 h1 h2
 have i0:∀ w,(Instr.index 25 (.agg #[.int .i64 p.t0,.int .i64 p.t1,.int .i64 p.t2,.int .i64 p.t3]) (.int .i64 0)).run Tryz.prog w=.ok (.int .i64 p.t0) w:=fun _=>by kernel_rfl
 have i1:∀ w,(Instr.index 25 (.agg #[.int .i64 p.t0,.int .i64 p.t1,.int .i64 p.t2,.int .i64 p.t3]) (.int .i64 1)).run Tryz.prog w=.ok (.int .i64 p.t1) w:=fun _=>by kernel_rfl
 have i2:∀ w,(Instr.index 25 (.agg #[.int .i64 p.t0,.int .i64 p.t1,.int .i64 p.t2,.int .i64 p.t3]) (.int .i64 2)).run Tryz.prog w=.ok (.int .i64 p.t2) w:=fun _=>by kernel_rfl
 have i3:∀ w,(Instr.index 25 (.agg #[.int .i64 p.t0,.int .i64 p.t1,.int .i64 p.t2,.int .i64 p.t3]) (.int .i64 3)).run Tryz.prog w=.ok (.int .i64 p.t3) w:=fun _=>by kernel_rfl
 have HR:=Lib.hid hr
 have HT0:=Lib.hid (fun w=>toward_any p.n0 p.t0 r w h1 (by omega) (by omega) (by omega) (by omega) (by omega))
 have HT1:=Lib.hid (fun w=>toward_any p.n1 p.t1 r w h1 (by omega) (by omega) (by omega) (by omega) (by omega))
 have HT2:=Lib.hid (fun w=>toward_any p.n2 p.t2 r w h1 (by omega) (by omega) (by omega) (by omega) (by omega))
 have HT3:=Lib.hid (fun w=>toward_any p.n3 p.t3 r w h1 (by omega) (by omega) (by omega) (by omega) (by omega))
 have hE:=eq4
 clear hp hr hb0 hb1 hb2 hb3
 go_enter Tryz.func90,Tryz.ntmps90
 go_wp2
 go_loopw [12] (fun u wr=>∃ k:Nat,k≤4∧u=.int .i64 k∧PRel p pc r w k wr) (fun u _=>4 - (intOf u).toNat)
 case atStart=>exact ⟨0,by omega,rfl,.inl ⟨rfl,rfl⟩⟩
 case round =>
  obtain ⟨k,hk,rfl,hw⟩:=hrel
  rcases hw with ⟨rfl,rfl⟩ | ⟨rfl,rfl⟩ | ⟨rfl,rfl⟩ | ⟨rfl,rfl⟩ | ⟨rfl,rfl⟩
  ·go_wp2
   go_region_with (go_at_call 135; (with_reducible refine (HT0.out _).mono ?_); rintro e w' ⟨rfl,rfl⟩)
   all_goals
    go_wp2
    go_roundw
    case rel=>exact ⟨1,by omega,rfl,.inr (.inl ⟨rfl,rfl⟩)⟩
    case measure=>simp [intOf]
  ·go_wp2
   go_region_with (go_at_call 135; (with_reducible refine (HT1.out _).mono ?_); rintro e w' ⟨rfl,rfl⟩)
   all_goals
    go_wp2
    go_roundw
    case rel=>exact ⟨2,by omega,rfl,.inr (.inr (.inl ⟨rfl,rfl⟩))⟩
    case measure=>simp [intOf]
  ·go_wp2
   go_region_with (go_at_call 135; (with_reducible refine (HT2.out _).mono ?_); rintro e w' ⟨rfl,rfl⟩)
   all_goals
    go_wp2
    go_roundw
    case rel=>exact ⟨3,by omega,rfl,.inr (.inr (.inr (.inl ⟨rfl,rfl⟩)))⟩
    case measure=>simp [intOf]
  ·go_wp2
   go_region_with (go_at_call 135; (with_reducible refine (HT3.out _).mono ?_); rintro e w' ⟨rfl,rfl⟩)
   all_goals
    go_wp2
    go_roundw
    case rel=>exact ⟨4,by omega,rfl,.inr (.inr (.inr (.inr ⟨rfl,rfl⟩)))⟩
    case measure=>simp [intOf]
  ·by_cases hq:(toward p.n0 p.t0 r)=p.n0∧(toward p.n1 p.t1 r)=p.n1∧(toward p.n2 p.t2 r)=p.n2∧(toward p.n3 p.t3 r)=p.n3
   ·have hd:decide ((toward p.n0 p.t0 r)=p.n0∧(toward p.n1 p.t1 r)=p.n1∧(toward p.n2 p.t2 r)=p.n2∧(toward p.n3 p.t3 r)=p.n3)=true:=decide_eq_true hq
    have HS:=Lib.hid (show p.step r=⟨p.cls,p.t0,p.t1,p.t2,p.t3,toward p.n0 p.t0 r,toward p.n1 p.t1 r,toward p.n2 p.t2 r,toward p.n3 p.t3 r,p.by_⟩ by unfold Pt.step; rw [if_pos hq])
    clear hq
    go_wp2
    exact bodyPost_ret (v:=.agg #[.int .i64 p.cls,.int .i64 p.t0,.int .i64 p.t1,.int .i64 p.t2,.int .i64 p.t3,.int .i64 (toward p.n0 p.t0 r),.int .i64 (toward p.n1 p.t1 r),.int .i64 (toward p.n2 p.t2 r),.int .i64 (toward p.n3 p.t3 r),.int .i64 p.by_.rule,.int .i64 p.by_.src,.int .i64 p.by_.seq]) (by simp [results,Tryz.results90,go_sem]) rfl ⟨by rw [HR.out,HS.out],by (repeat (first | (with_reducible assumption) | (with_reducible refine below_set ?_ _ _ (by simp)) | (with_reducible refine below_al ?_ _) | (with_reducible refine below_dr ?_) | (with_reducible exact Below.refl _ _) | (with_reducible refine bel_call ?_ (by assumption))))⟩
   ·have hd:decide ((toward p.n0 p.t0 r)=p.n0∧(toward p.n1 p.t1 r)=p.n1∧(toward p.n2 p.t2 r)=p.n2∧(toward p.n3 p.t3 r)=p.n3)=false:=decide_eq_false hq
    have HS:=Lib.hid (show p.step r=⟨p.cls,p.t0,p.t1,p.t2,p.t3,toward p.n0 p.t0 r,toward p.n1 p.t1 r,toward p.n2 p.t2 r,toward p.n3 p.t3 r,{ p.by_ with rule:=4 }⟩ by unfold Pt.step; rw [if_neg hq])
    clear hq
    go_wp2
    exact bodyPost_ret (v:=.agg #[.int .i64 p.cls,.int .i64 p.t0,.int .i64 p.t1,.int .i64 p.t2,.int .i64 p.t3,.int .i64 (toward p.n0 p.t0 r),.int .i64 (toward p.n1 p.t1 r),.int .i64 (toward p.n2 p.t2 r),.int .i64 (toward p.n3 p.t3 r),.int .i64 4,.int .i64 p.by_.src,.int .i64 p.by_.seq]) (by simp [results,Tryz.results90,go_sem]) rfl ⟨by rw [HR.out,HS.out],by (repeat (first | (with_reducible assumption) | (with_reducible refine below_set ?_ _ _ (by simp)) | (with_reducible refine below_al ?_ _) | (with_reducible refine below_dr ?_) | (with_reducible exact Below.refl _ _) | (with_reducible refine bel_call ?_ (by assumption))))⟩
end
section
namespace SE
def mostOf (pc:Array Value):Int:=max (pI pc 51) (max (pI pc 52) (pI pc 53))
structure PolFit (pc:Array Value):Prop where
 ok:PolOk pc
 sets:PolSets pc
 most:∀ c,c<4→0≤pI pc (50+c)∧pI pc (50+c)≤1000
 rate:1≤pI pc 54∧pI pc 54≤1000
 perm:∀ s:Nat,s<5→∃ i,i<5∧pI pc i=s
def i64 (z:Int):Value:=.int .i64 z
def UFc (pc:Array Value) (k:Nat) (vs:List Value):Prop :=
 match k with
 | 0=>∃ z,vs=[i64 z]∧-mostOf pc≤z∧z≤mostOf pc
 | 2=>vs=pc.toList
 | 3=>∃ f i r,vs=[i64 f,i64 i,i64 r]∧(f=0∨takes pc i r=true)
 | 4=>∃ i r,vs=[i64 i,i64 r]∧takes pc i r=true
 | 5=>∃ s r,vs=[i64 s,i64 r]∧r=rank pc s
 | 6=>∃ a b,vs=[i64 a,i64 b]∧rank pc a<rank pc b
 | 7=>∃ a b,vs=[i64 a,i64 b]∧a≤b
 | 8=>∃ h a b c,vs=[i64 h,i64 a,i64 b,i64 c]∧(h=1→a=0)∧(h=2→b=0)∧(h=3→c=0)
 | 9=>∃ o h a b c,vs=[i64 o,i64 h,i64 a,i64 b,i64 c]∧o≠0∧(o=1→a=1∧h≠1)∧(o=2→b=1∧h≠2)∧(o=3→c=1∧h≠3)
 | 10=>∃ a b c m,vs=[i64 a,i64 b,i64 c,i64 m]∧a+b+c≤m
 | 12=>∃ e f r r0,vs=[i64 e,i64 f,i64 r,i64 r0]∧(e=1∨f=0∨r=r0)
 | _=>False
structure Rc where
 kind:Int
 src:Int
 seq:Int
 epoch:Int
 code:Int
 how:Int
def Rc.cells (r:Rc):List Value:=[i64 r.kind,i64 r.src,i64 r.seq,i64 r.epoch,i64 r.code,i64 r.how]
def rcCells:List Rc→List Value
 | []=>[]
 | r::l=>r.cells++rcCells l
structure Fd where
 on:Int×Int×Int
 wt:Int×Int×Int
 en:Int×Int×Int
def put3 (p:Int×Int×Int) (s v:Int):Int×Int×Int :=
 if s=1 then (v,p.2.1,p.2.2) else if s=2 then (p.1,v,p.2.2) else if s=3 then (p.1,p.2.1,v) else p
def Fd.step (d:Fd) (r:Rc):Fd :=
 if r.kind=3 then { d with on:=put3 d.on r.src 1,en:=put3 d.en r.src 1 }
 else if r.kind=4∨r.kind=5 then { d with on:=put3 d.on r.src 0,wt:=put3 d.wt r.src 0 }
 else if r.kind=8 then { d with wt:=put3 d.wt r.src 0 }
 else if r.kind=10 then { d with wt:=put3 d.wt r.src 1 }
 else d
def Fd.nums (d:Fd):List Value:=[i64 d.on.1,i64 d.on.2.1,i64 d.on.2.2,i64 d.wt.1,i64 d.wt.2.1,i64 d.wt.2.2,i64 d.en.1,i64 d.en.2.1,i64 d.en.2.2]
def RecsOk (vs us:List Value):Prop :=
 ∃ (a b c x y z:Int) (rs:List Rc),(∀ r∈rs,0≤r.src∧r.src≤4)∧us=rcCells rs ∧
  vs=[i64 a,i64 b,i64 c,i64 x,i64 y,i64 z]++(rs.foldl Fd.step ⟨(a,b,c),(x,y,z),(0,0,0)⟩).nums
structure On where
 src:Int
 age:Int
 most:Int
 came:Int
def On.rg (o:On):Prop:=(-9223372036854775808≤o.age∧o.age≤9223372036854775807)∧(-9223372036854775808≤o.most∧o.most≤9223372036854775807)∧(0≤o.came∧o.came≤18446744073709551615)
def onCells (pc:Array Value):List On→List Value
 | []=>[]
 | o::l=>[i64 o.src,i64 (rank pc o.src),i64 o.age,i64 o.most,.int .u64 o.came]++onCells pc l
def bitOf (l:List On) (s:Int):Int:=if s∈l.map On.src then 1 else 0
def LineOk (pc:Array Value) (vs us:List Value):Prop :=
 ∃ (l:List On) (m:Int),us=onCells pc l∧(l.map On.src).Nodup∧(∀ o∈l,(1≤o.src∧o.src≤3)∧o.rg)∧(l.length:Int)≤m ∧
  vs=[i64 (bitOf l 1),i64 (bitOf l 2),i64 (bitOf l 3),i64 m]
def SentOk (us:List Value):Prop:=∀ u∈us,u.oneCell'=true
def RPc (pc:Array Value) (nm:Nat) (vs us:List Value):Prop :=
 match nm with
 | 1=>LineOk pc vs us
 | 2=>RecsOk vs us
 | 3=>vs=[]∧SentOk us
 | _=>False
noncomputable def Xc (pc:Array Value):Px:=⟨Tryz.prog,TC,UFc pc,RPc pc⟩
variable {pc:Array Value} {own0:Nat→Prop} {w0 w:World} {E:Env} {st:SE.St}
def clV:SV→Bool
 | .int _ (.r _ _) | .tt | .ff | .bool=>true
 | _=>false
def clL:List SV→Bool
 | []=>true
 | v::l=>clV v&&clL l
theorem clV_ok {E E':Env} {x:SV} {v:Value} (h:clV x=true) (hr:R E x v):R E' x v:=by
 unfold clV at h
 split at h
 ·simp only [R,SIok] at hr ⊢; exact hr
 ·simp only [R] at hr ⊢; exact hr
 ·simp only [R] at hr ⊢; exact hr
 ·simp only [R] at hr ⊢; exact hr
 ·cases h
theorem clL_ok {E E':Env}:∀ {l:List SV} {vs:List Value},clL l=true→RL E l vs→RL E' l vs
 | [],vs,h,hr=>by rw [RL_nil.1 hr]; simp [RL]
 | x::l,vs,h,hr=>by
  simp only [clL,Bool.and_eq_true] at h
  simp only [RL] at hr ⊢
  obtain ⟨v,vs',e,h1,h2⟩:=hr
  exact ⟨v,vs',e,clV_ok h.1 h1,clL_ok h.2 h2⟩
theorem glT_cl:∀ g cs,glT g=some cs→clL cs=true:=by
 intro g cs h
 simp only [glT,cond_eq_ite] at h
 split at h
 ·cases h; rfl
 ·split at h
  ·cases h; rfl
  ·cases h
theorem glc_ok:∀ gg cs,(Xc pc).T.gl gg=some cs→∀ E E' vs,RL E cs vs→RL E' cs vs :=
 fun gg cs h E E' vs hr=>clL_ok (glT_cl gg cs h) hr
theorem allI_ok {E:Env}:∀ {l:List SV} {vs:List Value},allI l=true→RL E l vs→∃ zs:List Int,vs=zs.map i64
 | [],vs,h,hr=>⟨[],by rw [RL_nil.1 hr]; rfl⟩
 | x::l,[],h,hr=>by simp [RL] at hr
 | x::l,v::vs,h,hr=>by
  simp only [allI,Bool.and_eq_true] at h
  obtain ⟨zs,rfl⟩:=allI_ok h.2 (RL_cons.1 hr).2
  have h1:=h.1
  unfold isI at h1
  split at h1
  ·have:=(RL_cons.1 hr).1
   simp only [R] at this
   obtain ⟨z,_,rfl⟩:=this
   exact ⟨z::zs,rfl⟩
  ·cases h1
theorem exI_two {E:Env} {x:SV} {u v:Value} (h:exI x=true) (hu:R E x u) (hv:R E x v):∃ z,u=i64 z∧v=i64 z:=by
 unfold exI at h
 split at h
 ·simp only [R,SIok] at hu hv
  obtain ⟨a,ha,rfl⟩:=hu
  obtain ⟨b,hb,rfl⟩:=hv
  rw [ha] at hb
  cases hb
  exact ⟨a,rfl,rfl⟩
 ·simp only [decide_eq_true_eq] at h
  simp only [R,SIok] at hu hv
  obtain ⟨a,ha,rfl⟩:=hu
  obtain ⟨b,hb,rfl⟩:=hv
  have:a=b:=by omega
  subst this
  exact ⟨a,rfl,rfl⟩
 ·cases h
theorem emp_ok:∀ nm args,(Xc pc).T.emp nm args=true→∀ E vs,RL E args vs→(Xc pc).RP nm vs []:=by
 intro nm args h E vs hr
 simp only [Xc,TC,empT,cond_eq_ite] at h
 split at h
 ·rename_i h3
  have:=nbeq h3
  subst this
  split at h
  ·simp only [RL] at hr
   exact ⟨hr,fun u hu=>by cases hu⟩
  ·cases h
 ·split at h
  ·rename_i h2
   have:=nbeq h2
   subst this
   split at h
   ·rename_i a b c d e f g h' i j k l m n o
    simp only [Bool.and_eq_true] at h
    obtain ⟨h0,h1,h2⟩:=h
    have e1:=SV.beqL_eq _ _ h1
    have e2:=SV.beqL_eq _ _ h2
    simp only [List.cons.injEq,and_true] at e1 e2
    obtain ⟨rfl,rfl,rfl,rfl,rfl,rfl⟩:=e1
    obtain ⟨rfl,rfl,rfl⟩:=e2
    have hlen:=RL_length hr
    simp only [List.length_cons,List.length_nil] at hlen
    match vs,hlen with
    | [a1,b1,c1,d1,f1,g1,a2,b2,c2,d2,f2,g2,x,y,z],_ =>
     simp only [RL_cons] at hr
     obtain ⟨p1,p2,p3,p4,p5,p6,q1,q2,q3,q4,q5,q6,r1,r2,r3,_⟩:=hr
     simp only [allEx,Bool.and_eq_true] at h0
     obtain ⟨x1,x2,x3,x4,x5,x6,_⟩:=h0
     obtain ⟨z1,rfl,rfl⟩:=exI_two x1 p1 q1
     obtain ⟨z2,rfl,rfl⟩:=exI_two x2 p2 q2
     obtain ⟨z3,rfl,rfl⟩:=exI_two x3 p3 q3
     obtain ⟨z4,rfl,rfl⟩:=exI_two x4 p4 q4
     obtain ⟨z5,rfl,rfl⟩:=exI_two x5 p5 q5
     obtain ⟨z6,rfl,rfl⟩:=exI_two x6 p6 q6
     have zero:∀ {v:Value},R E (N 0) v→v=i64 0:=fun {v} h=>by
      simp only [N,R,SIok] at h
      obtain ⟨z,hz,rfl⟩:=h
      have:z=0:=by omega
      subst this
      rfl
     rw [zero r1,zero r2,zero r3]
     exact ⟨z1,z2,z3,z4,z5,z6,[],by simp,rfl,rfl⟩
   ·cases h
  ·cases h
theorem rcCells_append:∀ (l m:List Rc),rcCells (l++m)=rcCells l++rcCells m
 | [],m=>rfl
 | r::l,m=>by simp only [List.cons_append,rcCells,rcCells_append l m,List.append_assoc]
theorem srcOf_ok {E:Env} {v:SV} {u:Value} {n:Int} (h:srcOf v=some n) (hr:R E v u):u=i64 n:=by
 unfold srcOf at h
 split at h
 ·simp only [cond_eq_ite,decide_eq_true_eq] at h
  split at h
  ·cases h
   simp only [R,SIok] at hr
   obtain ⟨z,hz,rfl⟩:=hr
   have:z=n:=by omega
   subst this
   rfl
  ·cases h
 ·cases h
theorem inSrc_ok (g:G (Xc pc) own0 w0 E st w) {v:SV} {z:Int} (h:inSrc st v=true) (hr:R E v (i64 z)):0≤z∧z≤4:=by
 unfold inSrc at h
 split at h
 ·rename_i k l hh hrng
  simp only [Bool.and_eq_true,decide_eq_true_eq] at h
  obtain ⟨z',hz,h1,h2⟩:=rng_ok g hrng hr
  cases hz
  omega
 ·cases h
theorem RN (E:Env) (n:Int):R E (N n) (i64 n):=by
 simp only [N,R,SIok]
 exact ⟨n,⟨Int.le_refl _,Int.le_refl _⟩,rfl⟩
theorem put3_no {s:Int} (h:¬ (1≤s∧s≤3)) (p:Int×Int×Int) (v:Int):put3 p s v=p:=by
 unfold put3
 rw [if_neg (by omega),if_neg (by omega),if_neg (by omega)]
theorem putBit_no {s:Int} (h:¬ (1≤s∧s≤3)) (l:List SV) (b:Nat) (v:SV):putBit l b s v=l:=by
 unfold putBit
 have:(decide (1≤s)&&decide (s≤3))=false:=by
  cases hb:(decide (1≤s)&&decide (s≤3)) with
  | false=>rfl
  | true=>simp at hb; exact absurd hb h
 rw [this]
 rfl
theorem appc:AppOk (Xc pc):=by
 intro nm args new st args' h own0 w0 E w g vs us ns hvs hns hrp
 simp only [Xc,TC,appT,cond_eq_ite] at h
 split at h
 ·rename_i h2
  have:=nbeq h2
  subst this
  obtain ⟨a,b,c,x,y,z,rs,hrs,rfl,rfl⟩:=hrp
  generalize hd:rs.foldl Fd.step ⟨(a,b,c),(x,y,z),(0,0,0)⟩=d at hvs
  unfold appRec at h
  split at h
  ·rename_i k s e1 e2 e3 e4
   split at h
   ·rename_i kz hk
    simp only [cond_eq_ite] at h
    split at h
    ·rename_i hin
     simp only [Bool.and_eq_true] at hin
     obtain ⟨zs,rfl⟩:=allI_ok hin.2 hns
     have hlen:=RL_length hns
     simp only [List.length_map,List.length_cons,List.length_nil] at hlen
     match zs,hlen with
     | [k',s',q1,q2,q3,q4],_ =>
      simp only [List.map_cons,List.map_nil,RL_cons] at hns
      obtain ⟨hk',hs',_⟩:=hns
      have hkz:k'=kz:=by have:=srcOf_ok hk hk'; simpa [i64] using this
      subst hkz
      have hb:=inSrc_ok g hin.1 hs'
      have fin:∀ vs',RL E args' vs'→vs'=[i64 a,i64 b,i64 c,i64 x,i64 y,i64 z]++(d.step ⟨k',s',q1,q2,q3,q4⟩).nums →
        ∃ vs',RL E args' vs'∧RPc pc 2 vs' (rcCells rs++List.map i64 [k',s',q1,q2,q3,q4]):=fun vs' h1 h2 =>
       ⟨vs',h1,a,b,c,x,y,z,rs++[⟨k',s',q1,q2,q3,q4⟩],by
        intro r hr
        rcases List.mem_append.1 hr with hr | hr
        ·exact hrs r hr
        ·rw [List.mem_singleton.1 hr]; exact hb,by rw [rcCells_append]; rfl,by rw [h2,List.foldl_append,hd]; rfl⟩
      have hal:=RL_length hvs
      simp only [Fd.nums,List.length_append,List.length_cons,List.length_nil] at hal
      match args,hal with
      | [a0,a1,a2,a3,a4,a5,b0,b1,b2,c0,c1,c2,d0,d1,d2],_ =>
       simp only [Fd.nums,List.cons_append,List.nil_append,RL_cons] at hvs
       obtain ⟨p0,p1,p2,p3,p4,p5,q0,q1',q2',r0,r1,r2,s0,s1,s2,_⟩:=hvs
       split at h
       ·rename_i hkk
        split at h
        ·rename_i sz hsz
         have hse:s'=sz:=by have:=srcOf_ok hsz hs'; simpa [i64] using this
         subst hse
         simp only [Option.some.injEq] at h
         subst h
         simp only [Bool.or_eq_true,decide_eq_true_eq] at hkk
         by_cases hr3:1≤s'∧s'≤3
         ·have h3:s'=1∨s'=2∨s'=3:=by omega
          rcases h3 with rfl | rfl | rfl <;> rcases hkk with rfl | rfl | rfl | rfl | rfl <;>
           refine fin _ ?_ rfl <;>
           simp [Fd.step,put3,putBit,setN,Fd.nums,RL_cons,RL_nil,RN,p0,p1,p2,p3,p4,p5,q0,q1',q2',r0,r1,r2,s0,s1,s2]
         ·rcases hkk with rfl | rfl | rfl | rfl | rfl <;>
           refine fin _ ?_ rfl <;>
           simp [Fd.step,put3_no hr3,putBit_no hr3,Fd.nums,RL_cons,RL_nil,p0,p1,p2,p3,p4,p5,q0,q1',q2',r0,r1,r2,s0,s1,s2]
        ·cases h
       ·rename_i hkk
        cases h
        simp only [Bool.or_eq_true,decide_eq_true_eq,not_or] at hkk
        refine fin _ ?_ rfl
        simp [Fd.step,hkk,Fd.nums,RL_cons,RL_nil,p0,p1,p2,p3,p4,p5,q0,q1',q2',r0,r1,r2,s0,s1,s2]
    ·cases h
   ·cases h
  ·cases h
 ·split at h
  ·rename_i h3
   have:=nbeq h3
   subst this
   split at h
   ·rename_i hac
    cases h
    refine ⟨vs,hvs,hrp.1,fun u hu=>?_⟩
    rcases List.mem_append.1 hu with hu | hu
    ·exact hrp.2 u hu
    ·exact allCell_one hns hac u hu
   ·cases h
  ·cases h
end SE
end
section
open Go.RowKit
theorem of_t1 (n:Nat) (w:World) (h:w.cell? ⟨n,3,none⟩=some (.bool true)):Calls Tryz.prog 55 #[.pointer (some ⟨n,0,none⟩),.int .i64 1] w fun e w'=>e=.returned (.pointer (some ⟨n,3,none⟩))∧w'=w:=by
 go_enter Tryz.func55,Tryz.ntmps55
 go_wp2
 go_ret
 exact ⟨rfl,rfl⟩
theorem of_f1 (n:Nat) (w:World) (h:w.cell? ⟨n,3,none⟩=some (.bool false)):Calls Tryz.prog 55 #[.pointer (some ⟨n,0,none⟩),.int .i64 1] w fun e w'=>e=.returned (.pointer none)∧w'=w:=by
 go_enter Tryz.func55,Tryz.ntmps55
 go_wp2
 go_ret
 exact ⟨rfl,rfl⟩
theorem on_1 (n:Nat) (f:Bool) (w:World) (h:w.cell? ⟨n,3,none⟩=some (.bool f)):Calls Tryz.prog 39 #[.pointer (some ⟨n,0,none⟩),.int .i64 1] w fun e w'=>e=.returned (.bool f)∧w'=w:=by
 cases f with
 | true =>
  have H:=Lib.hid (of_t1 n w h)
  go_enter Tryz.func39,Tryz.ntmps39
  go_wp2_with (go_at_call 55; (with_reducible refine H.out.mono ?_); rintro e' w2 ⟨rfl,h2⟩; cases h2)
  go_ret
  exact ⟨rfl,rfl⟩
 | false =>
  have H:=Lib.hid (of_f1 n w h)
  go_enter Tryz.func39,Tryz.ntmps39
  go_wp2_with (go_at_call 55; (with_reducible refine H.out.mono ?_); rintro e' w2 ⟨rfl,h2⟩; cases h2)
  go_ret
  exact ⟨rfl,rfl⟩
theorem role_1 (n:Nat) (f:Bool) (r:Int) (w:World) (h:w.cell? ⟨n,3,none⟩=some (.bool f)) (hr:w.cell? ⟨n,6,none⟩=some (.int .i64 r)):Calls Tryz.prog 40 #[.pointer (some ⟨n,0,none⟩),.int .i64 1] w fun e w'=>e=.returned (.int .i64 (if f then r else 0))∧w'=w:=by
 cases f with
 | true =>
  have H:=Lib.hid (of_t1 n w h)
  go_enter Tryz.func40,Tryz.ntmps40
  go_wp2_with (go_at_call 55; (with_reducible refine H.out.mono ?_); rintro e' w2 ⟨rfl,h2⟩; cases h2)
  go_ret
  exact ⟨rfl,rfl⟩
 | false =>
  have H:=Lib.hid (of_f1 n w h)
  go_enter Tryz.func40,Tryz.ntmps40
  go_wp2_with (go_at_call 55; (with_reducible refine H.out.mono ?_); rintro e' w2 ⟨rfl,h2⟩; cases h2)
  go_ret
  exact ⟨rfl,rfl⟩
theorem of_t2 (n:Nat) (w:World) (h:w.cell? ⟨n,42,none⟩=some (.bool true)):Calls Tryz.prog 55 #[.pointer (some ⟨n,0,none⟩),.int .i64 2] w fun e w'=>e=.returned (.pointer (some ⟨n,42,none⟩))∧w'=w:=by
 go_enter Tryz.func55,Tryz.ntmps55
 go_wp2
 go_ret
 exact ⟨rfl,rfl⟩
theorem of_f2 (n:Nat) (w:World) (h:w.cell? ⟨n,42,none⟩=some (.bool false)):Calls Tryz.prog 55 #[.pointer (some ⟨n,0,none⟩),.int .i64 2] w fun e w'=>e=.returned (.pointer none)∧w'=w:=by
 go_enter Tryz.func55,Tryz.ntmps55
 go_wp2
 go_ret
 exact ⟨rfl,rfl⟩
theorem on_2 (n:Nat) (f:Bool) (w:World) (h:w.cell? ⟨n,42,none⟩=some (.bool f)):Calls Tryz.prog 39 #[.pointer (some ⟨n,0,none⟩),.int .i64 2] w fun e w'=>e=.returned (.bool f)∧w'=w:=by
 cases f with
 | true =>
  have H:=Lib.hid (of_t2 n w h)
  go_enter Tryz.func39,Tryz.ntmps39
  go_wp2_with (go_at_call 55; (with_reducible refine H.out.mono ?_); rintro e' w2 ⟨rfl,h2⟩; cases h2)
  go_ret
  exact ⟨rfl,rfl⟩
 | false =>
  have H:=Lib.hid (of_f2 n w h)
  go_enter Tryz.func39,Tryz.ntmps39
  go_wp2_with (go_at_call 55; (with_reducible refine H.out.mono ?_); rintro e' w2 ⟨rfl,h2⟩; cases h2)
  go_ret
  exact ⟨rfl,rfl⟩
theorem role_2 (n:Nat) (f:Bool) (r:Int) (w:World) (h:w.cell? ⟨n,42,none⟩=some (.bool f)) (hr:w.cell? ⟨n,45,none⟩=some (.int .i64 r)):Calls Tryz.prog 40 #[.pointer (some ⟨n,0,none⟩),.int .i64 2] w fun e w'=>e=.returned (.int .i64 (if f then r else 0))∧w'=w:=by
 cases f with
 | true =>
  have H:=Lib.hid (of_t2 n w h)
  go_enter Tryz.func40,Tryz.ntmps40
  go_wp2_with (go_at_call 55; (with_reducible refine H.out.mono ?_); rintro e' w2 ⟨rfl,h2⟩; cases h2)
  go_ret
  exact ⟨rfl,rfl⟩
 | false =>
  have H:=Lib.hid (of_f2 n w h)
  go_enter Tryz.func40,Tryz.ntmps40
  go_wp2_with (go_at_call 55; (with_reducible refine H.out.mono ?_); rintro e' w2 ⟨rfl,h2⟩; cases h2)
  go_ret
  exact ⟨rfl,rfl⟩
theorem of_t3 (n:Nat) (w:World) (h:w.cell? ⟨n,81,none⟩=some (.bool true)):Calls Tryz.prog 55 #[.pointer (some ⟨n,0,none⟩),.int .i64 3] w fun e w'=>e=.returned (.pointer (some ⟨n,81,none⟩))∧w'=w:=by
 go_enter Tryz.func55,Tryz.ntmps55
 go_wp2
 go_ret
 exact ⟨rfl,rfl⟩
theorem of_f3 (n:Nat) (w:World) (h:w.cell? ⟨n,81,none⟩=some (.bool false)):Calls Tryz.prog 55 #[.pointer (some ⟨n,0,none⟩),.int .i64 3] w fun e w'=>e=.returned (.pointer none)∧w'=w:=by
 go_enter Tryz.func55,Tryz.ntmps55
 go_wp2
 go_ret
 exact ⟨rfl,rfl⟩
theorem on_3 (n:Nat) (f:Bool) (w:World) (h:w.cell? ⟨n,81,none⟩=some (.bool f)):Calls Tryz.prog 39 #[.pointer (some ⟨n,0,none⟩),.int .i64 3] w fun e w'=>e=.returned (.bool f)∧w'=w:=by
 cases f with
 | true =>
  have H:=Lib.hid (of_t3 n w h)
  go_enter Tryz.func39,Tryz.ntmps39
  go_wp2_with (go_at_call 55; (with_reducible refine H.out.mono ?_); rintro e' w2 ⟨rfl,h2⟩; cases h2)
  go_ret
  exact ⟨rfl,rfl⟩
 | false =>
  have H:=Lib.hid (of_f3 n w h)
  go_enter Tryz.func39,Tryz.ntmps39
  go_wp2_with (go_at_call 55; (with_reducible refine H.out.mono ?_); rintro e' w2 ⟨rfl,h2⟩; cases h2)
  go_ret
  exact ⟨rfl,rfl⟩
theorem role_3 (n:Nat) (f:Bool) (r:Int) (w:World) (h:w.cell? ⟨n,81,none⟩=some (.bool f)) (hr:w.cell? ⟨n,84,none⟩=some (.int .i64 r)):Calls Tryz.prog 40 #[.pointer (some ⟨n,0,none⟩),.int .i64 3] w fun e w'=>e=.returned (.int .i64 (if f then r else 0))∧w'=w:=by
 cases f with
 | true =>
  have H:=Lib.hid (of_t3 n w h)
  go_enter Tryz.func40,Tryz.ntmps40
  go_wp2_with (go_at_call 55; (with_reducible refine H.out.mono ?_); rintro e' w2 ⟨rfl,h2⟩; cases h2)
  go_ret
  exact ⟨rfl,rfl⟩
 | false =>
  have H:=Lib.hid (of_f3 n w h)
  go_enter Tryz.func40,Tryz.ntmps40
  go_wp2_with (go_at_call 55; (with_reducible refine H.out.mono ?_); rintro e' w2 ⟨rfl,h2⟩; cases h2)
  go_ret
  exact ⟨rfl,rfl⟩
theorem on_4 (n:Nat) (w:World):Calls Tryz.prog 39 #[.pointer (some ⟨n,0,none⟩),.int .i64 4] w fun e w'=>e=.returned (.bool true)∧w'=w:=by
 go_enter Tryz.func39,Tryz.ntmps39
 go_wp2
 go_ret
 exact ⟨rfl,rfl⟩
theorem on_0 (n:Nat) (f:Bool) (w:World) (h:w.cell? ⟨n,0,none⟩=some (.bool f)):Calls Tryz.prog 39 #[.pointer (some ⟨n,0,none⟩),.int .i64 0] w fun e w'=>e=.returned (.bool f)∧w'=w:=by
 go_enter Tryz.func39,Tryz.ntmps39
 go_wp2
 go_ret
 exact ⟨rfl,rfl⟩
theorem of_no (n:Nat) (s:Int) (w:World) (h:¬ (1≤s∧s≤3)):Calls Tryz.prog 55 #[.pointer (some ⟨n,0,none⟩),.int .i64 s] w fun e w'=>e=.returned (.pointer none)∧w'=w:=by
 by_cases h1:s<1
 ·go_enter Tryz.func55,Tryz.ntmps55
  go_wp2
  go_ret
  exact ⟨rfl,rfl⟩
 ·have h2:3<s:=by omega
  clear h
  go_enter Tryz.func55,Tryz.ntmps55
  go_wp2
  go_ret
  exact ⟨rfl,rfl⟩
theorem on_no (n:Nat) (s:Int) (w:World) (h:¬ (0≤s∧s≤4)):Calls Tryz.prog 39 #[.pointer (some ⟨n,0,none⟩),.int .i64 s] w fun e w'=>e=.returned (.bool false)∧w'=w:=by
 have H:=Lib.hid (of_no n s w (by omega))
 have h4:¬ s=4:=by omega
 have h0:¬ s=0:=by omega
 clear h
 go_enter Tryz.func39,Tryz.ntmps39
 go_wp2_with (go_at_call 55; (with_reducible refine H.out.mono ?_); rintro e' w2 ⟨rfl,h2⟩; cases h2)
 go_ret
 exact ⟨rfl,rfl⟩
theorem role_no (n:Nat) (s:Int) (w:World) (h:¬ (1≤s∧s≤3)):Calls Tryz.prog 40 #[.pointer (some ⟨n,0,none⟩),.int .i64 s] w fun e w'=>e=.returned (.int .i64 0)∧w'=w:=by
 have H:=Lib.hid (of_no n s w h)
 clear h
 go_enter Tryz.func40,Tryz.ntmps40
 go_wp2_with (go_at_call 55; (with_reducible refine H.out.mono ?_); rintro e' w2 ⟨rfl,h2⟩; cases h2)
 go_ret
 exact ⟨rfl,rfl⟩
end
section
namespace SE
variable {pc:Array Value} {own0:Nat→Prop} {w0 w:World} {E:Env} {st:SE.St}
theorem RL1 {E:Env} {a:SV} {vs:List Value} (h:RL E [a] vs):∃ x,vs=[x]∧R E a x:=by
 simp only [RL] at h
 obtain ⟨v,vs',rfl,h1,rfl⟩:=h
 exact ⟨v,rfl,h1⟩
theorem RL2 {E:Env} {a b:SV} {vs:List Value} (h:RL E [a,b] vs):∃ x y,vs=[x,y]∧R E a x∧R E b y:=by
 simp only [RL] at h
 obtain ⟨v,vs',rfl,h1,v2,vs2,rfl,h2,rfl⟩:=h
 exact ⟨v,v2,rfl,h1,h2⟩
theorem RL3 {E:Env} {a b c:SV} {vs:List Value} (h:RL E [a,b,c] vs):∃ x y z,vs=[x,y,z]∧R E a x∧R E b y∧R E c z:=by
 simp only [RL] at h
 obtain ⟨v,vs',rfl,h1,v2,vs2,rfl,h2,v3,vs3,rfl,h3,rfl⟩:=h
 exact ⟨v,v2,v3,rfl,h1,h2,h3⟩
theorem RL4 {E:Env} {a b c d:SV} {vs:List Value} (h:RL E [a,b,c,d] vs):∃ x y z u,vs=[x,y,z,u]∧R E a x∧R E b y∧R E c z∧R E d u:=by
 simp only [RL] at h
 obtain ⟨v,vs',rfl,h1,v2,vs2,rfl,h2,v3,vs3,rfl,h3,v4,vs4,rfl,h4,rfl⟩:=h
 exact ⟨v,v2,v3,v4,rfl,h1,h2,h3,h4⟩
theorem arr_of {vals:Array Value} {l:List Value} (h:vals.toList=l):vals=l.toArray:=by rw [← h]
theorem RU {E:Env} {lo hi z:Int} (h1:lo≤z) (h2:z≤hi):R E (U lo hi) (i64 z):=by
 simp only [U,R,SIok]
 exact ⟨z,⟨h1,h2⟩,rfl⟩
theorem pkc:PkOk (Xc pc) where
 fn:=fun g h=>by
  simp only [Xc,TC] at h
  have:=nbeq h
  subst this
  exact ⟨Tryz.f73,rfl⟩
 ok:=fun g args st v hg h own0 w0 E w g' vals hr=>by
  simp only [Xc,TC] at hg h
  have:=nbeq hg
  subst this
  unfold pkSat at h
  split at h
  ·rename_i n m
   obtain ⟨x,y,hxy,hx,hy⟩:=RL2 hr
   rw [arr_of hxy]
   split at h
   ·rename_i nl nh ml mh e1 e2
    obtain ⟨a,rfl,a1,a2⟩:=rng_ok g' e1 hx
    obtain ⟨b,rfl,b1,b2⟩:=rng_ok g' e2 hy
    simp only [cond_eq_ite,Bool.and_eq_true,decide_eq_true_eq] at h
    split at h
    ·rename_i hc
     have hrun:∀ w,Calls Tryz.prog 73 #[i64 a,i64 b] w (fun e w'=>e=.returned (i64 (sat a b))∧w'=w):=fun w =>
      (sat_any a b w (by omega) (by omega)).mono fun e w' he=>⟨he.1,he.2.symm⟩
     have hs:(a<b∧sat a b=a+1)∨(¬ a<b∧sat a b=b):=by
      unfold sat
      by_cases hab:a<b
      ·exact .inl ⟨hab,if_pos hab⟩
      ·exact .inr ⟨hab,if_neg hab⟩
     split at h
     ·rename_i hlt
      cases h
      exact ⟨_,RU (by omega) (by omega),hrun⟩
     ·cases h
      have:=mn_le (nl+1) ml
      exact ⟨_,RU (by omega) (by omega),hrun⟩
    ·cases h
   ·cases h
  ·cases h
theorem tabOf_ok (g:G (Xc pc) own0 w0 E st w) {v:SV} {cs:List SV} {u:Value} (h:tabOf st v=some cs) (hr:R E v u) :
  ∃ n vs,u=.pointer (some ⟨n,0,none⟩)∧w.heap[n]?=some (.cells vs 145 (0,0))∧RL E cs vs.toList:=by
 unfold tabOf at h
 split at h
 ·rename_i b
  simp only [R] at hr
  obtain ⟨n,hn,rfl⟩:=hr
  split at h
  ·rename_i cs' hl
   cases h
   rcases g.heap b _ hl with ⟨h0,_⟩ | ⟨m,h1,h2,h3,vs,h4,h5⟩
   ·cases h0
   ·rw [hn] at h1
    cases h1
    exact ⟨n,vs,rfl,h4,h5⟩
  ·rename_i cs' hl
   cases h
   rcases g.heap b _ hl with ⟨h0,_⟩ | ⟨m,h1,h2,h3,vs,h4,h5⟩
   ·cases h0
   ·rw [hn] at h1
    cases h1
    exact ⟨n,vs,rfl,h4,h5⟩
  ·cases h
 ·cases h
def flagIx (s:Int):Nat:=bif decide (s=0) then 0 else 39*s.toNat - 36
theorem flagAt_ok {E:Env} {cs:List SV} {vs:Array Value} {s:Int} {v:SV} (h:flagAt cs s=some v) (hr:RL E cs vs.toList):isB v=true∧∃ b,vs[flagIx s]?=some (.bool b)∧R E v (.bool b):=by
 unfold flagAt at h
 split at h
 ·rename_i x hx
  simp only [cond_eq_ite] at h
  split at h
  ·rename_i hb
   cases h
   obtain ⟨u,hu,hru⟩:=RL_nth hr hx
   obtain ⟨b,rfl⟩:=isB_ok hb hru
   exact ⟨hb,b,by simpa [flagIx,cond_eq_ite] using hu,hru⟩
  ·cases h
 ·cases h
theorem cellE {w w':World} {n j:Nat} {vs:Array Value} {e:Nat} {v:Value} (h:w.heap[n]?=some (.cells vs e (0,0))) (hx:Ext0 w w') (hv:vs[j]?=some v):w'.cell? ⟨n,j,none⟩=some v:=by
 rw [cell_at (hx.some h)]
 exact hv
theorem rkc:RkOk (Xc pc) where
 app:=appc
 fn:=fun g h=>by
  simp only [Xc,TC,Bool.or_eq_true] at h
  rcases h with h | h
  ·have:=nbeq h
   subst this
   exact ⟨Tryz.f39,rfl⟩
  ·have:=nbeq h
   subst this
   exact ⟨Tryz.f40,rfl⟩
 ok:=fun g args st v hg h own0 w0 E w g' vals hr=>by
  simp only [Xc,TC,Bool.or_eq_true,cond_eq_ite] at hg h
  by_cases h39:Nat.beq g 39=true
  ·rw [if_pos h39] at h
   have:=nbeq h39
   subst this
   unfold rkOn at h
   split at h
   ·rename_i t s
    obtain ⟨x,y,hxy,hx,hy⟩:=RL2 hr
    rw [arr_of hxy]
    split at h
    ·rename_i cs ht
     obtain ⟨n,vs,rfl,hn,hcs⟩:=tabOf_ok g' ht hx
     split at h
     ·rename_i l hh hrng
      obtain ⟨z,rfl,z1,z2⟩:=rng_ok g' hrng hy
      simp only [cond_eq_ite,Bool.and_eq_true,decide_eq_true_eq] at h
      have flag:∀ s,0≤s→s≤3→∀ b,vs[flagIx s]?=some (.bool b)→∀ w',Ext0 w w'→Calls Tryz.prog 39 #[.pointer (some ⟨n,0,none⟩),i64 s] w' (fun e w''=>e=.returned (.bool b)∧w''=w'):=by
       intro s s1 s2 b hb w' hw'
       have h4:s=0∨s=1∨s=2∨s=3:=by omega
       rcases h4 with rfl | rfl | rfl | rfl
       ·exact on_0 n b w' (cellE hn hw' hb)
       ·exact on_1 n b w' (cellE hn hw' hb)
       ·exact on_2 n b w' (cellE hn hw' hb)
       ·exact on_3 n b w' (cellE hn hw' hb)
      split at h
      ·rename_i hlh
       have:z=l:=by omega
       subst this
       split at h
       ·rename_i h4
        subst h4
        cases h
        exact ⟨.bool true,by simp only [R],fun w' hw'=>on_4 n w'⟩
       ·split at h
        ·rename_i h4 h03
         obtain ⟨hb,b,hb1,hb2⟩:=flagAt_ok h hcs
         exact ⟨.bool b,hb2,flag z h03.1 h03.2 b hb1⟩
        ·rename_i h4 h03
         cases h
         exact ⟨.bool false,by simp only [R],fun w' hw'=>on_no n z w' (by omega)⟩
      ·split at h
       ·rename_i f0 f1 f2 f3 e0 e1 e2 e3
        cases h
        obtain ⟨_,b0,hb0,_⟩:=flagAt_ok e0 hcs
        obtain ⟨_,b1,hb1,_⟩:=flagAt_ok e1 hcs
        obtain ⟨_,b2,hb2,_⟩:=flagAt_ok e2 hcs
        obtain ⟨_,b3,hb3,_⟩:=flagAt_ok e3 hcs
        have hz:z=0∨z=1∨z=2∨z=3∨z=4∨¬ (0≤z∧z≤4):=by omega
        rcases hz with rfl | rfl | rfl | rfl | rfl | hz
        ·exact ⟨.bool b0,by simp only [R]; exact ⟨_,rfl⟩,flag 0 (by omega) (by omega) b0 hb0⟩
        ·exact ⟨.bool b1,by simp only [R]; exact ⟨_,rfl⟩,flag 1 (by omega) (by omega) b1 hb1⟩
        ·exact ⟨.bool b2,by simp only [R]; exact ⟨_,rfl⟩,flag 2 (by omega) (by omega) b2 hb2⟩
        ·exact ⟨.bool b3,by simp only [R]; exact ⟨_,rfl⟩,flag 3 (by omega) (by omega) b3 hb3⟩
        ·exact ⟨.bool true,by simp only [R]; exact ⟨_,rfl⟩,fun w' hw'=>on_4 n w'⟩
        ·exact ⟨.bool false,by simp only [R]; exact ⟨_,rfl⟩,fun w' hw'=>on_no n z w' hz⟩
       ·cases h
     ·cases h
    ·cases h
   ·cases h
  ·rw [if_neg h39] at h
   rcases hg with hg | hg
   ·exact absurd hg h39
   have:=nbeq hg
   subst this
   unfold rkRole at h
   split at h
   ·rename_i t s
    obtain ⟨x,y,hxy,hx,hy⟩:=RL2 hr
    rw [arr_of hxy]
    split at h
    ·rename_i cs l ht hcst
     obtain ⟨n,vs,rfl,hn,hcs⟩:=tabOf_ok g' ht hx
     simp only [cond_eq_ite] at hcst
     split at hcst
     ·rename_i his
      obtain ⟨k,hk⟩:=cst_ok g' hcst hy
      have hki:k=.i64:=by
       unfold isI at his
       split at his
       ·simp only [R] at hy
        obtain ⟨z,_,e⟩:=hy
        rw [e] at hk
        cases hk
        rfl
       ·cases his
      subst hki
      subst hk
      simp only [cond_eq_ite,Bool.and_eq_true,decide_eq_true_eq] at h
      split at h
      ·rename_i h13
       split at h
       ·rename_i f r hf hrr
        obtain ⟨hb,b,hb1,hb2⟩:=flagAt_ok hf hcs
        obtain ⟨u,hu,hru⟩:=RL_nth hcs hrr
        have hu':vs[39*l.toNat - 33]?=some u:=by simpa using hu
        have role:∀ z,u=i64 z→∀ w',Ext0 w w'→Calls Tryz.prog 40 #[.pointer (some ⟨n,0,none⟩),i64 l] w' (fun e w''=>e=.returned (i64 (if b then z else 0))∧w''=w'):=by
         intro z hz w' hw'
         subst hz
         have h3:l=1∨l=2∨l=3:=by omega
         rcases h3 with rfl | rfl | rfl
         ·exact role_1 n b z w' (cellE hn hw' hb1) (cellE hn hw' hu')
         ·exact role_2 n b z w' (cellE hn hw' hb1) (cellE hn hw' hu')
         ·exact role_3 n b z w' (cellE hn hw' hb1) (cellE hn hw' hu')
        split at h
        ·rename_i hev
         have hbt:b=true:=by have:=evalB_ok g' hev hb2; simpa using this
         subst hbt
         split at h
         ·rename_i xr
          cases h
          simp only [R] at hru
          obtain ⟨z,hz,rfl⟩:=hru
          exact ⟨i64 z,by simp only [R]; exact ⟨z,hz,rfl⟩,by have:=role z rfl; simp only [if_true] at this; exact this⟩
         ·cases h
        ·rename_i hev
         have hbt:b=false:=by have:=evalB_ok g' hev hb2; simpa using this
         subst hbt
         split at h
         ·rename_i hir
          cases h
          unfold isI at hir
          split at hir
          ·simp only [R] at hru
           obtain ⟨z,hz,rfl⟩:=hru
           refine ⟨i64 0,RN _ _,?_⟩
           have:=role z rfl
           simp only [Bool.false_eq_true,if_false] at this
           exact this
          ·cases hir
         ·cases h
        ·split at h
         ·rename_i a c hrg
          cases h
          obtain ⟨z,rfl,z1,z2⟩:=rng_ok g' hrg hru
          have q1:=mn_le a 0
          have q2:=le_mx c 0
          refine ⟨i64 (if b then z else 0),RU ?_ ?_,role z rfl⟩ <;> cases b <;> simp <;> omega
         ·cases h
       ·cases h
      ·rename_i h13
       cases h
       exact ⟨i64 0,RN _ _,fun w' hw'=>role_no n l w' h13⟩
     ·cases hcst
    ·cases h
   ·cases h
end SE
end
end Go.Proofs.YtdgejnakakjgfaaGreatDoor
