/- Rows of items in memory: what they hold, how they grow; over the program's table of types alone. shown; the walks of the laws FrameAll and FrameGoes. The walk of the law FrameGoes. Walks: All, Take, Rest, New. The walk of the law FrameBursts. Walks: New, Rest, Take. The walk of shown. A range over a function whose iterator may write what lay ahead of the loop: the statement. The machine: what its core's calls come to; what they leave alone. The core of the program, as the machine sees it: its numbers; what is told of a call. A call of the core, as the machine sees it. What link 1 says: runs. -/
import Derived.Test.YtdgejnakakjgfaaGreatDoorR12
import Derived.Test.YtdgejnakakjgfaaGreatDoorR18
import Derived.Test.YtdgejnakakjgfaaGreatDoorR08
import Derived.Test.YtdgejnakakjgfaaGreatDoorR17
import Derived.WalkMore
import Derived.RangeFuncNested
set_option linter.unusedVariables false
set_option linter.unusedSimpArgs false
set_option maxRecDepth 100000
namespace Go.Proofs.YtdgejnakakjgfaaGreatDoor
section
open Go.RowKit Crc Fr St
def Bd (w:World) (good:Nat→Prop) (A:Option Addr) (k c:Nat) (b:List UInt8):Prop :=
 b.length=k∧k≤c∧c≤maxLen∧(0<k→∃ ad,A=some ad∧good ad.block∧ad.block<w.heap.size∧∀ j u,b[j]?=some u→w.cell? (ad.add j)=some (bv u)) ∧
  ∀ ad,A=some ad→ad.spot=none∧good ad.block∧ad.block<w.heap.size
def Its (w:World) (good:Nat→Prop):List It→List Value→Prop
 | [],[]=>True
 | (c,b)::r,u::v::vs=>u=.int .i64 (c:Int)∧(∃ A k cc,v=.slice A k cc∧Bd w good A k cc b)∧Its w good r vs
 | _,_=>False
section
variable {w w':World} {good good':Nat→Prop}
theorem Bd.keep {A:Option Addr} {k c:Nat} {b:List UInt8} (h:Bd w good A k c b) (hs:w.heap.size≤w'.heap.size) (hk:∀ p,good p→p<w.heap.size→w'.heap[p]?=w.heap[p]?) (hg:∀ p,good p→good' p):Bd w' good' A k c b:=by
 refine ⟨h.1,h.2.1,h.2.2.1,fun h0=>?_,fun ad e=>⟨(h.2.2.2.2 ad e).1,hg _ (h.2.2.2.2 ad e).2.1,Nat.lt_of_lt_of_le (h.2.2.2.2 ad e).2.2 hs⟩⟩
 obtain ⟨ad,h1,h2,h3,h4⟩:=h.2.2.2.1 h0
 refine ⟨ad,h1,hg _ h2,by omega,fun j u hu=>?_⟩
 rw [← h4 j u hu]
 exact World.cell?_of_block (by rw [block_of_add]; exact hk _ h2 h3)
theorem Its.keep (hs:w.heap.size≤w'.heap.size) (hk:∀ p,good p→p<w.heap.size→w'.heap[p]?=w.heap[p]?) (hg:∀ p,good p→good' p):∀ {its:List It} {vs:List Value},Its w good its vs→Its w' good' its vs
 | [],[],_=>trivial
 | (c,b)::r,u::v::vs,⟨h1,⟨A,k,cc,h2,h3⟩,h4⟩=>⟨h1,⟨A,k,cc,h2,h3.keep hs hk hg⟩,Its.keep hs hk hg h4⟩
 | [],_::_,h=>h.elim
 | (_,_)::_,[],h=>h.elim
 | (_,_)::_,[_],h=>h.elim
theorem Its.length:∀ {its:List It} {vs:List Value},Its w good its vs→vs.length=its.length*2
 | [],[],_=>rfl
 | (c,b)::r,u::v::vs,⟨_,_,h4⟩=>by have:=Its.length h4; simp; omega
 | [],_::_,h=>h.elim
 | (_,_)::_,[],h=>h.elim
 | (_,_)::_,[_],h=>h.elim
theorem Its.append:∀ {a b:List It} {va vb:List Value},Its w good a va→Its w good b vb→Its w good (a++b) (va++vb)
 | [],b,[],vb,_,hb=>hb
 | (c,x)::r,b,u::v::vs,vb,⟨h1,h2,h4⟩,hb=>⟨h1,h2,Its.append h4 hb⟩
 | [],_,_::_,_,h,_=>h.elim
 | (_,_)::_,_,[],_,h,_=>h.elim
 | (_,_)::_,_,[_],_,h,_=>h.elim
theorem Its.oneCell:∀ {its:List It} {vs:List Value},Its w good its vs→∀ u∈vs,u.oneCell'=true
 | [],[],_,u,hu=>by cases hu
 | (c,b)::r,u::v::vs,⟨h1,⟨A,k,cc,h2,_⟩,h4⟩,x,hx=>by
  rcases List.mem_cons.1 hx with rfl | hx
  ·rw [h1]; rfl
  ·rcases List.mem_cons.1 hx with rfl | hx
   ·rw [h2]; rfl
   ·exact Its.oneCell h4 x hx
 | [],_::_,h,_,_=>h.elim
 | (_,_)::_,[],h,_,_=>h.elim
 | (_,_)::_,[_],h,_,_=>h.elim
theorem Its.get:∀ {its:List It} {vs:List Value} {i:Nat} {c:Nat} {b:List UInt8},Its w good its vs→its[i]?=some (c,b) →
  vs[i*2]?=some (.int .i64 (c:Int))∧∃ A k cc,vs[i*2+1]?=some (.slice A k cc)∧Bd w good A k cc b
 | (c,b)::r,u::v::vs,0,_,_,⟨h1,⟨A,k,cc,h2,h3⟩,_⟩,h=>by
  simp at h
  obtain ⟨rfl,rfl⟩:=h
  exact ⟨by simp [h1],A,k,cc,by simp [h2],h3⟩
 | (c,b)::r,u::v::vs,i+1,_,_,⟨_,_,h4⟩,h=>by
  have:=Its.get h4 (i:=i) (by simpa using h)
  simpa [Nat.add_mul] using this
 | [],_,_,_,_,_,h=>by simp at h
 | (_,_)::_,[],_,_,_,h,_=>h.elim
 | (_,_)::_,[_],_,_,_,h,_=>h.elim
def g5 (w:World) (base b:Nat):Prop:=base≤b∧∃ cur m,w.heap[b]?=some (.cells cur 5 m)
theorem g5.lt {base b:Nat} (h:g5 w base b):b<w.heap.size:=by
 obtain ⟨_,cur,m,h⟩:=h
 rcases Nat.lt_or_ge b w.heap.size with h1 | h1
 ·exact h1
 ·rw [Array.getElem?_eq_none h1] at h; cases h
theorem g5.of_eq {base b:Nat} (h:g5 w base b) (he:w'.heap[b]?=w.heap[b]?):g5 w' base b:=⟨h.1,by obtain ⟨cur,m,h2⟩:=h.2; exact ⟨cur,m,by rw [he]; exact h2⟩⟩
theorem Bd.of_own {base base':Nat} {A:Option Addr} {k c:Nat} {b:List UInt8} (h:OwnB w base A k c b) (hb:base'≤base):Bd w (g5 w base') A k c b:=by
 have hl:=h.length
 have hbd:=h.bounds
 refine ⟨hl,hbd.1,hbd.2,fun h0=>?_,fun ad e=>?_⟩
 rotate_left
 ·rcases h.2 with ⟨h4,_⟩ | ⟨g,cap,cur,hv,hg,hh,_⟩
  ·injection h4 with h4 _ _
   rw [h4] at e
   cases e
  ·injection hv with hv _ _
   rw [hv] at e
   cases e
   refine ⟨rfl,⟨Nat.le_trans hb hg,cur,_,hh⟩,?_⟩
   rcases Nat.lt_or_ge g w.heap.size with h1 | h1
   ·exact h1
   ·rw [Array.getElem?_eq_none h1] at hh; cases hh
 obtain ⟨ad,h1,h2,h3⟩:=h.reads.2 h0
 rcases h.2 with ⟨_,h4⟩ | ⟨g,cap,cur,hv,hg,hh,_⟩
 ·omega
 ·injection hv with hv _ _
  rw [hv] at h1
  injection h1 with h1
  subst h1
  refine ⟨⟨g,0,none⟩,hv,⟨Nat.le_trans hb hg,cur,_,hh⟩,h2,fun j u hu=>?_⟩
  exact h3 j _ (by rw [List.getElem?_map,hu]; rfl)
theorem Bd.nil_:Bd w good none 0 0 []:=⟨rfl,by omega,by simp [maxLen],fun h=>absurd h (by omega),fun _ e=>by cases e⟩
def OwnI (w:World) (base:Nat) (good:Nat→Prop) (A:Option Addr) (k c:Nat) (its:List It):Prop :=
 ∃ vs,w.ownsRow base 93 2 (.slice A k c) k vs∧Its w good its vs
theorem OwnI.nil_ (base:Nat):OwnI w base good none 0 0 []:=⟨[],World.ownsRow_nil _ _ _ _,trivial⟩
theorem OwnI.length {base:Nat} {A:Option Addr} {k c:Nat} {its:List It} (h:OwnI w base good A k c its):its.length=k:=by
 obtain ⟨vs,h1,h2⟩:=h
 have:=h1.1
 have:=h2.length
 omega
theorem OwnI.type {base:Nat} {A:Option Addr} {k c:Nat} {its:List It} (h:OwnI w base good A k c its) {g:Nat} (hg:(Value.slice A k c).ownBlock=some g):base≤g∧∃ cur m,w.heap[g]?=some (.cells cur 93 m):=by
 obtain ⟨vs,h1,_⟩:=h
 rcases h1.2 with ⟨h2,_⟩ | ⟨g',cap,cur,hv,hb,hh,_⟩
 ·injection h2 with h2 _ _; subst h2; cases hg
 ·injection hv with hv _ _; subst hv; injection hg with hg; subst hg; exact ⟨hb,cur,_,hh⟩
theorem OwnI.keep {base:Nat} {A:Option Addr} {k c:Nat} {its:List It} (h:OwnI w base good A k c its) (hs:w.heap.size≤w'.heap.size)
  (hr:∀ g,(Value.slice A k c).ownBlock=some g→g<w.heap.size→w'.heap[g]?=w.heap[g]?) (hk:∀ p,good p→p<w.heap.size→w'.heap[p]?=w.heap[p]?) (hg:∀ p,good p→p<w.heap.size→good' p):OwnI w' base good' A k c its:=by
 obtain ⟨vs,h1,h2⟩:=h
 refine ⟨vs,⟨h1.1,?_⟩,?_⟩
 ·rcases h1.2 with h3 | ⟨g,cap,cur,hv,hb,hh,r⟩
  ·exact .inl h3
  ·refine .inr ⟨g,cap,cur,hv,hb,?_,r⟩
   rw [hr g (by injection hv with hv; subst hv; rfl)]
   ·exact hh
   ·rcases Nat.lt_or_ge g w.heap.size with h | h
    ·exact h
    ·rw [Array.getElem?_eq_none h] at hh; cases hh
 ·clear h1 hr
  induction its generalizing vs with
  | nil=>cases vs with
   | nil=>trivial
   | cons _ _=>exact h2.elim
  | cons x r ih =>
   obtain ⟨cc,b⟩:=x
   match vs,h2 with
   | u::v::vs,⟨h3,⟨A',k',c',h4,h5⟩,h6⟩ =>
    refine ⟨h3,⟨A',k',c',h4,h5.1,h5.2.1,h5.2.2.1,fun h0=>?_,fun ad e=>⟨(h5.2.2.2.2 ad e).1,hg _ (h5.2.2.2.2 ad e).2.1 (h5.2.2.2.2 ad e).2.2,Nat.lt_of_lt_of_le (h5.2.2.2.2 ad e).2.2 hs⟩⟩,ih vs h6⟩
    obtain ⟨ad,e1,e2,e3,e4⟩:=h5.2.2.2.1 h0
    refine ⟨ad,e1,hg _ e2 e3,by omega,fun j u hu=>?_⟩
    rw [← e4 j u hu]
    exact World.cell?_of_block (by rw [block_of_add]; exact hk _ e2 e3)
end
theorem item_info:(Tryz.prog.info? 93).map (fun i=>(i.zero,i.size,i.bytes))=some (some (.agg #[.int .i64 0,.slice none 0 0]),2,32):=by kernel_rfl
theorem under47:Tryz.prog.underlying 90=some (.slice 93):=by kernel_rfl
theorem wpList_append_i {w:World} {ops:Array Oper} {rest:List Oper} {o:Oper} {a:Act} {Q:Exit→Act→World→Prop} (hgd:o.guard=none) (s x:Operand)
  (ho:o.op=.call { callee:=.builtin .append,args:=#[s,x],argTypes:=#[90,90] })
  (base:Nat) (good:Nat→Prop) (A:Option Addr) (k c:Nat) (l:List It) (hs:a.eval s=.slice A k c) (hown:OwnI w base good A k c l)
  (B:Nat) (A2:Option Addr) (m c2:Nat) (news:List It) (nvs:List Value) (hx:a.eval x=.slice A2 m c2) (hr:Reads w B 2 A2 m nvs) (hn:Its w good news nvs)
  (hgood:∀ p,good p→some p≠(Value.slice A k c).ownBlock)
  (hbd:k+m≤1000000000) (hbase:base≤w.heap.size)
  (h:∀ (A':Option Addr) (c':Nat) (w':World),OwnI w' base good A' (k+m) c' (l++news)→w.grownBy w' (Value.slice A k c).ownBlock →
   ((Value.slice A' (k+m) c').ownBlock=(Value.slice A k c).ownBlock∨(Value.slice A' (k+m) c').ownBlock=some w.heap.size) →
   wpList Tryz.prog ops Q rest (a.put o.dst (.slice A' (k+m) c')) w'):wpList Tryz.prog ops Q (o::rest) a w:=by
 obtain ⟨i0,hi0,hz0,hz1,hz2⟩:=info_parts item_info
 obtain ⟨vs,hv1,hv2⟩:=hown
 have hone:∀ u∈nvs,u.oneCell'=true:=hn.oneCell
 refine wpList_append_any w hgd s x 90 ho base 93 i0 _ 2 32 under47 hi0 hz0 hz1 hz2 rfl (by omega) _ k _ hs hv1 B A2 m c2 _ hx hr hone
  (by simp only [maxLen]; omega) (by omega) hbase ?_
 intro v' w' h1 h2 h3
 have hform:∃ A' c',v'=.slice A' (k+m) c':=by
  rcases h1.2 with ⟨rfl,h0⟩ | ⟨g,cap,cur,rfl,_⟩
  ·exact ⟨none,0,by rw [h0]⟩
  ·exact ⟨_,_,rfl⟩
 obtain ⟨A',c',rfl⟩:=hform
 exact h A' c' w' ⟨_,h1,(hv2.append hn).keep h2.size (fun p hp hlt=>h2.block p hlt (hgood p hp)) (fun _ hp=>hp)⟩ h2 h3
end
section
open Go.RowKit Crc Fr
theorem cell_new (w:World) (C:Array Value) (t:TypeId) (m:Nat×Nat) (i:Nat) (v:Value) (h:C[i]?=some v):(w.alloc (.cells C t m)).cell? ⟨w.heap.size,i,none⟩=some v:=by
 have:(w.alloc (.cells C t m)).heap[w.heap.size]?=some (.cells C t m):=heap_alloc_new w _
 simp only [World.cell?,this]
 simpa using h
theorem cell_alloc {w:World} {a:Addr} {v:Value} (h:w.cell? a=some v) (o:Obj):(w.alloc o).cell? a=some v :=
 (World.cell?_alloc_lt w o a (World.block_lt_of_cell? w a h)).trans h
theorem cell_below {w w':World} {B:Nat} {a:Addr} {v:Value} (hb:Below B w w') (h:w.cell? a=some v) (ha:a.block<B):w'.cell? a=some v:=(hb.cell ha).trans h
end
section
open Go.RowKit Crc Fr
theorem next_named {l:List UInt8} {fk fs fc:Nat} {fb:List UInt8} (hf:Fr.next l=⟨fk,fs,fc,fb⟩) (B:Nat) (A:Option Addr) (n c:Nat) (w:World) (hr:Reads w B 1 A n (l.map bv)) (hB:B≤w.heap.size) (hc:n≤c) (hm:c≤maxLen) :
  Calls Tryz.prog 66 #[.slice A n c] w fun e w'=>∃ A' k' c',e=.returned (.agg #[.int .i64 (fk:Int),.int .i64 (fs:Int),.int .i64 (fc:Int),.slice A' k' c'])∧OwnB w' w.heap.size A' k' c' fb∧Below w.heap.size w w':=by
 have:=next_any B A n c l w hr hB hc hm
 rw [hf] at this
 exact this
end
section
open Go.RowKit Crc Fr St
theorem slice_any (A:Option Addr) (n c lo:Nat) (w:World) (L:Int) (hL:L=lo) (h1:lo≤n) (h2:n≤c) :
  (Instr.slice 23 (.slice A n c) (some (.int .i64 L)) none none).run Tryz.prog w=.ok (.slice (if c=lo then A else A.map (·.add lo)) (n - lo) (c - lo)) w:=by
 subst hL
 rw [run_slice_l w 23 _ n c elem22 .i64 lo (by omega) (by omega),size22]
 simp only [Result.andThen,sliced,Int.toNat_natCast]
 by_cases h:c=lo
 ·subst h; rcases A with _ | ad <;> simp
 ·rcases A with _ | ad
  ·simp [h]
  ·simp [h]
theorem reads_new2 (w:World) (u v:Value) (e:TypeId) (m:Nat×Nat):Reads (w.alloc (.cells #[u,v] e m)) (w.heap.size+1) 2 (some ⟨w.heap.size,0,none⟩) 1 [u,v]:=by
 refine ⟨rfl,fun _=>⟨_,rfl,by simp,fun j x hx=>?_⟩⟩
 have hj:(Addr.add ⟨w.heap.size,0,none⟩ j)=⟨w.heap.size,j,none⟩:=by unfold Addr.add; split <;> simp_all
 rw [hj]
 exact cell_new w #[u,v] e m j x (by simpa using hx)
theorem g5.grown {w w':World} {base p:Nat} {row:Option Nat} (h:g5 w base p) (hg:w.grownBy w' row) (hne:some p≠row):g5 w' base p:=h.of_eq (hg.block p h.lt hne)
theorem g5.belw {w w':World} {base p:Nat} (h:g5 w base p) (hb:Below w.heap.size w w'):g5 w' base p:=h.of_eq (hb.block p h.lt)
theorem OwnI.g5ne {w:World} {base base':Nat} {good:Nat→Prop} {A:Option Addr} {k c:Nat} {its:List It} (h:OwnI w base good A k c its) {p:Nat} (hp:g5 w base' p):some p≠(Value.slice A k c).ownBlock:=by
 intro e
 obtain ⟨_,cur,m,h1⟩:=h.type e.symm
 obtain ⟨_,cur',m',h2⟩:=hp
 rw [h1] at h2
 simp at h2
theorem OwnI.belw {w w':World} {base base':Nat} {A:Option Addr} {k c:Nat} {its:List It} (h:OwnI w base (g5 w base') A k c its) (hb:Below w.heap.size w w'):OwnI w' base (g5 w' base') A k c its :=
 h.keep hb.size (fun g _ hlt=>hb.block g hlt) (fun p _ hlt=>hb.block p hlt) (fun p hp _=>hp.belw hb)
theorem OwnI.lt {w:World} {base:Nat} {good:Nat→Prop} {A:Option Addr} {k c:Nat} {its:List It} (h:OwnI w base good A k c its) {g:Nat} (hg:(Value.slice A k c).ownBlock=some g):base≤g∧g<w.heap.size:=by
 obtain ⟨hb,cur,m,h1⟩:=h.type hg
 refine ⟨hb,?_⟩
 rcases Nat.lt_or_ge g w.heap.size with h2 | h2
 ·exact h2
 ·rw [Array.getElem?_eq_none h2] at h1; cases h1
theorem wpList_append_i5 {w:World} {ops:Array Oper} {rest:List Oper} {o:Oper} {a:Act} {Q:Exit→Act→World→Prop} (hgd:o.guard=none) (s x:Operand)
  (ho:o.op=.call { callee:=.builtin .append,args:=#[s,x],argTypes:=#[90,90] })
  (base:Nat) (A:Option Addr) (k c:Nat) (l:List It) (hs:a.eval s=.slice A k c) (hown:OwnI w base (g5 w base) A k c l)
  (B:Nat) (A2:Option Addr) (m c2:Nat) (news:List It) (nvs:List Value) (hx:a.eval x=.slice A2 m c2) (hr:Reads w B 2 A2 m nvs) (hn:Its w (g5 w base) news nvs)
  (hbd:k+m≤1000000000) (hbase:base≤w.heap.size)
  (h:∀ (A':Option Addr) (c':Nat) (w':World),OwnI w' base (g5 w' base) A' (k+m) c' (l++news)→w.grownBy w' (Value.slice A k c).ownBlock →
   wpList Tryz.prog ops Q rest (a.put o.dst (.slice A' (k+m) c')) w'):wpList Tryz.prog ops Q (o::rest) a w:=by
 refine wpList_append_i hgd s x ho base (g5 w base) A k c l hs hown B A2 m c2 news nvs hx hr hn (fun p hp=>hown.g5ne hp) hbd hbase ?_
 intro A' c' w' h1 h2 _
 exact h A' c' w' (h1.keep (Nat.le_refl _) (fun _ _ _=>rfl) (fun _ _ _=>rfl) (fun p hp _=>hp.grown h2 (hown.g5ne hp))) h2
def lenV:Value→Nat
 | .slice _ n _=>n
 | _=>0
set_option maxHeartbeats 1000000 in
theorem all_any (B:Nat) (A:Option Addr) (n c:Nat) (l:List UInt8) (w:World) (hr:Reads w B 1 A n (l.map bv)) (hB:B≤w.heap.size) (hc:n≤c) (hm:c≤maxLen) (hn:n≤100000) :
  Calls Tryz.prog 48 #[.slice A n c] w fun e w'=>∃ A' k' c',e=.returned (.tuple #[.slice A' k' c',.int .i64 ((scan l).2.length:Int)])∧OwnI w' w.heap.size (g5 w' w.heap.size) A' k' c' (scan l).1∧Below w.heap.size w w':=by
 have hr1:=Lib.hid hr
 have hln:l.length=n:=by simpa using hr.1
 have HLN:=Lib.hid hln
 clear hr hln
 go_enter Tryz.func48,Tryz.ntmps48
 go_wp2
 go_step3
 go_wp2
 go_step3
 go_wp2
 go_loopw [0,4] (fun b i wr=>∃ (A1:Option Addr) (n1 c1:Nat) (lr:List UInt8) (A2:Option Addr) (k2 c2:Nat) (done:List It),b=.slice A1 n1 c1∧i=.slice A2 k2 c2∧Reads wr B 1 A1 n1 (lr.map bv)∧n1≤c1∧c1≤maxLen ∧
   OwnI wr w.heap.size (g5 wr w.heap.size) A2 k2 c2 done∧k2+n1≤n∧scan l=(done++(scan lr).1,(scan lr).2)∧Below w.heap.size w wr) (fun b _ _=>lenV b)
 case atStart=>exact ⟨A,n,c,l,none,0,0,[],rfl,rfl,hr1.out,hc,hm,OwnI.nil_ _,by omega,rfl,Below.refl _ _⟩
 case round =>
  obtain ⟨A1,n1,c1,lr,A2,k2,c2,done,rfl,rfl,hrd,hc1,hm1,hoi,hkn,hsc,hbr⟩:=hrel
  have hl1:lr.length=n1:=by simpa using hrd.1
  have hws:=hbr.size
  have HRD:=Lib.hid hrd
  have HOI:=Lib.hid hoi
  have HSC:=Lib.hid hsc
  clear hrd hoi hsc
  obtain ⟨fk,fs,fc,fb,hf⟩:∃ fk fs fc fb,Fr.next lr=⟨fk,fs,fc,fb⟩:=⟨_,_,_,_,rfl⟩
  have NF:=Lib.hid (next_named hf B A1 n1 c1 wr HRD.out (by omega) hc1 hm1)
  have HF:=Lib.hid hf
  by_cases h0:fk=0
  ·subst h0
   have hw:scan lr=([],lr):=scan_wait (by rw [hf])
   have HW:=Lib.hid hw
   clear hf hw
   go_wp2_with (go_at_call 66; (with_reducible refine NF.out.mono ?_); rintro e w1 ⟨A5,k5,c5,rfl,o5,hb5⟩)
   rw [Exit.noGoto_ret]
   go_ret2
   have e1:(scan l).2=lr:=by rw [HSC.out,HW.out]
   have e2:(scan l).1=done:=by rw [HSC.out,HW.out]; simp
   refine ⟨A2,k2,c2,by rw [e1,hl1]; exact rfl,?_,(hbr.trans (hb5.mono (by omega))).alloc (by have:=hb5.size; omega) _⟩
   rw [e2]
   exact (HOI.out.belw hb5).belw ((Below.refl _ _).alloc (Nat.le_refl _) _)
  ·have hsz:=goes_size lr (by rw [hf]; exact h0)
   rw [hf] at hsz
   simp only at hsz
   rw [hl1] at hsz
   have hstep:scan lr=(item ⟨fk,fs,fc,fb⟩++(scan (lr.drop fs)).1,(scan (lr.drop fs)).2):=by
    have:=scan_step (l:=lr) (by rw [hf]; exact h0)
    rw [hf] at this
    exact this
   have HST:=Lib.hid hstep
   have sl:=fun w=>slice_any A1 n1 c1 fs w (fs:Int) rfl hsz.2 hc1
   have hcut:Reads wr B 1 (if c1=fs then A1 else A1.map (·.add fs)) (n1 - fs) ((lr.drop fs).map bv):=by
    have:=Reads.cut HRD.out hsz.2 hc1
    rwa [Nat.mul_one,← List.map_drop] at this
   have HCUT:=Lib.hid hcut
   clear hcut
   generalize (if c1=fs then A1 else A1.map (·.add fs))=A1' at sl HCUT
   clear hf hstep
   by_cases h2:fk=2
   ·subst h2
    clear h0
    go_wp2_with (first
     | (go_at_call 66; (with_reducible refine NF.out.mono ?_); rintro e w1 ⟨A5,k5,c5,rfl,o5,hb5⟩; have hs5:=hb5.size)
     | (at_builtin
        have hb6:=(hb5.alloc (Nat.le_trans hs5 (Nat.le_refl _)) (.cells #[.int .i64 2,.int .i64 (fs:Int),.int .i64 (fc:Int),.slice A5 k5 c5] 163)).alloc (by simp; omega) (.cells #[.int .i64 0,.slice A5 k5 c5] 93)
        have oi:=HOI.out.belw hb6
        refine wpList_append_i5 rfl (.tmp 14) (.tmp 18) rfl w.heap.size A2 k2 c2 done rfl oi (w1.heap.size+2) (some ⟨w1.heap.size+1,0,none⟩) 1 1 [(0,fb)] [.int .i64 0,.slice A5 k5 c5] (by rfl) (by simpa using reads_new2 (w1.alloc (.cells #[.int .i64 2,.int .i64 (fs:Int),.int .i64 (fc:Int),.slice A5 k5 c5] 163)) (.int .i64 0) (.slice A5 k5 c5) 93 (0,0)) ⟨rfl,⟨_,_,_,rfl,Bd.of_own ((o5.alloc _).alloc _) hws⟩,trivial⟩ (by omega) (by simp; omega) ?_
        intro A6 c6 w6 o6 hg6
        have hW6:Below w.heap.size wr w6:=(hb6.mono hws).grown hg6 (by simp; omega) (fun g hg=>(oi.lt hg).1)
        have f1:w6.cell? ⟨w1.heap.size,1,none⟩=some (.int .i64 (fs:Int)):=(World.cell?_of_block (hg6.block w1.heap.size (by simp; omega) (fun e=>by have:=(HOI.out.lt e.symm).2; omega))).trans (cell_alloc (cell_new w1 _ 163 _ 1 _ rfl) _)
        clear hb6 oi hg6))
    go_roundw
    case rel=>exact ⟨_,_,_,lr.drop fs,A6,k2+1,c6,done++[(0,fb)],rfl,rfl,HCUT.out.below (hW6.mono hB),by omega,by omega,o6,by omega,by rw [HSC.out,HST.out]; simp [item],hbr.trans hW6⟩
    case measure=>simp [lenV]; omega
   ·by_cases h3:fk=3
    ·subst h3
     clear h0 h2
     go_wp2_with (first
      | (go_at_call 66; (with_reducible refine NF.out.mono ?_); rintro e w1 ⟨A5,k5,c5,rfl,o5,hb5⟩; have hs5:=hb5.size)
      | (at_builtin
         have hb6:=(hb5.alloc (Nat.le_trans hs5 (Nat.le_refl _)) (.cells #[.int .i64 3,.int .i64 (fs:Int),.int .i64 (fc:Int),.slice A5 k5 c5] 163)).alloc (by simp; omega) (.cells #[.int .i64 (fc:Int),.slice none 0 0] 93)
         have oi:=HOI.out.belw hb6
         refine wpList_append_i5 rfl (.tmp 22) (.tmp 26) rfl w.heap.size A2 k2 c2 done rfl oi (w1.heap.size+2) (some ⟨w1.heap.size+1,0,none⟩) 1 1 [(fc,[])] [.int .i64 (fc:Int),.slice none 0 0] (by rfl) (by simpa using reads_new2 (w1.alloc (.cells #[.int .i64 3,.int .i64 (fs:Int),.int .i64 (fc:Int),.slice A5 k5 c5] 163)) (.int .i64 (fc:Int)) (.slice none 0 0) 93 (0,0)) ⟨rfl,⟨_,_,_,rfl,Bd.nil_⟩,trivial⟩ (by omega) (by simp; omega) ?_
         intro A6 c6 w6 o6 hg6
         have hW6:Below w.heap.size wr w6:=(hb6.mono hws).grown hg6 (by simp; omega) (fun g hg=>(oi.lt hg).1)
         have f1:w6.cell? ⟨w1.heap.size,1,none⟩=some (.int .i64 (fs:Int)):=(World.cell?_of_block (hg6.block w1.heap.size (by simp; omega) (fun e=>by have:=(HOI.out.lt e.symm).2; omega))).trans (cell_alloc (cell_new w1 _ 163 _ 1 _ rfl) _)
         clear hb6 oi hg6))
     go_roundw
     case rel=>exact ⟨_,_,_,lr.drop fs,A6,k2+1,c6,done++[(fc,[])],rfl,rfl,HCUT.out.below (hW6.mono hB),by omega,by omega,o6,by omega,by rw [HSC.out,HST.out]; simp [item],hbr.trans hW6⟩
     case measure=>simp [lenV]; omega
    ·have hk0:((fk:Int) == 0)=false:=by simpa using h0
     have hk2:((fk:Int) == 2)=false:=by simp; omega
     have hk3:((fk:Int) == 3)=false:=by simp; omega
     have hi:item ⟨fk,fs,fc,fb⟩=[]:=by simp [item,h2,h3]
     have HI:=Lib.hid hi
     clear hi h0 h2 h3
     go_wp2_with (go_at_call 66; (with_reducible refine NF.out.mono ?_); rintro e w1 ⟨A5,k5,c5,rfl,o5,hb5⟩; have hs5:=hb5.size)
     go_roundw
     case rel =>
      have hW6:=hb5.alloc hs5 (.cells #[.int .i64 (fk:Int),.int .i64 (fs:Int),.int .i64 (fc:Int),.slice A5 k5 c5] 163)
      exact ⟨_,_,_,lr.drop fs,A2,k2,c2,done,rfl,rfl,HCUT.out.below (hW6.mono (by omega)),by omega,by omega,HOI.out.belw hW6,by omega,by rw [HSC.out,HST.out,HI.out]; simp,hbr.trans (hW6.mono hws)⟩
     case measure=>simp [lenV]; omega
end
section
open Go.RowKit Crc Fr
theorem grownBy_setCell (w:World) (p:Addr) (u:Value):w.grownBy (w.setCell p u) (some p.block) :=
 ⟨rfl,rfl,rfl,by simp [World.setCell],fun k _ hne=>Below.heap_setCell w p u k (fun e=>hne (by rw [e]))⟩
end
section
open Go.RowKit Crc Fr St
theorem ownsRow_mono {w:World} {base base':Nat} {e:TypeId} {size n:Nat} {v:Value} {xs:List Value} (h:w.ownsRow base e size v n xs) (hb:base'≤base):w.ownsRow base' e size v n xs :=
 ⟨h.1,h.2.imp id (fun ⟨g,cap,cur,h1,h2,h3⟩=>⟨g,cap,cur,h1,Nat.le_trans hb h2,h3⟩)⟩
theorem frozen_below {w w':World} {B:Nat} {a:Addr} (hb:Below B w w') (ha:a.block<B):w'.frozen? a=w.frozen? a:=World.frozen?_of_block (hb.block a.block ha)
set_option maxHeartbeats 1000000 in
theorem take_any (B:Nat) (A:Option Addr) (n c:Nat) (x:List UInt8) (w:World) (g base k0 c0:Nat) (A0:Option Addr) (rest:List UInt8) (hr:Reads w B 1 A n (x.map bv)) (hB:B≤w.heap.size) (hn:n≤20000) (hk:k0≤20000)
  (hg:g<w.heap.size) (hcell:w.cell? ⟨g,0,none⟩=some (.slice A0 k0 c0)) (hfz:w.frozen? ⟨g,0,none⟩=false) (ho:OwnB w base A0 k0 c0 rest) :
  Calls Tryz.prog 32 #[.pointer (some ⟨g,0,none⟩),.slice A n c] w fun e w'=>∃ A' k' c' A1 k1 c1,e=.returned (.slice A' k' c')∧OwnI w' w.heap.size (g5 w' w.heap.size) A' k' c' (scan (rest++x)).1 ∧
   w'.cell? ⟨g,0,none⟩=some (.slice A1 k1 c1)∧w'.frozen? ⟨g,0,none⟩=false∧OwnB w' w.heap.size A1 k1 c1 (scan (rest++x)).2∧w.grownBy w' (some g):=by
 have hlr:rest.length=k0:=ho.length
 have hlx:x.length=n:=by simpa using hr.1
 have HR:=Lib.hid hr
 have HO:=Lib.hid ho
 have hll:=left_le (rest++x)
 have HLL:=Lib.hid hll
 have hlen:(rest++x).length=k0+n:=by simp [hlr,hlx]
 have HLEN:=Lib.hid hlen
 have hld:=left_drop (rest++x)
 rw [hlen] at hld
 have HLD:=Lib.hid hld
 clear hr ho hll hld hlen hlr hlx
 go_enter Tryz.func32,Tryz.ntmps32
 obtain ⟨L,hL⟩:∃ L,L=(scan (rest++x)).2.length:=⟨_,rfl⟩
 have hLle:L≤k0+n:=by have:=HLL.out; have:=HLEN.out; omega
 have HL:=Lib.hid hL
 clear hL
 go_wp2_with (first
  | (at_make
     refine wpList_make0_b rfl (.const (.int .i64 0)) (.tmp 15) rfl w.heap.size _ _ _ (k0+n) rfl rfl (by omega) (by omega) (Nat.le_refl _) ?_
     intro w1 o1 hg1
     have hb1:Below w.heap.size w w1:=(Below.refl _ _).grown hg1 (Nat.le_refl _) (fun k hk=>by cases hk)
     have hs1:=hb1.size
     have d1:=cell_below hb1 hcell hg
     clear hg1)
  | (at_builtin
     refine wpList_append_b rfl (.tmp 17) (.tmp 21) rfl w.heap.size _ 0 _ [] rfl o1 w.heap.size A0 k0 c0 rest rfl (HO.out.reads.below hb1) (by omega) hs1 ?_
     intro A2 k2 c2 w2 hk2 hk2' o2 hg2 _
     have hb2:Below w.heap.size w w2:=hb1.grown hg2 hs1 (fun g hg=>(o1.lt g hg).1)
     have hs2:=hb2.size
     clear hg2)
  | (at_builtin
     refine wpList_append_b rfl (.tmp 23) (.tmp 24) rfl w.heap.size A2 k2 c2 _ rfl o2 B A n c x rfl (HR.out.below (hb2.mono hB)) (by omega) hs2 ?_
     intro A3 k3 c3 w3 hk3 hk3' o3 hg3 _
     have hb3:Below w.heap.size w w3:=hb2.grown hg3 hs2 (fun g hg=>(o2.lt g hg).1)
     have hs3:=hb3.size
     obtain rfl:k3=k0+n:=(by omega)
     have o3':OwnB w3 w.heap.size A3 (k0+n) c3 (rest++x):=o3
     have bd3:=o3'.bounds
     clear hg3 o3)
  | (go_at_call 48; (with_reducible refine (all_any w3.heap.size A3 (k0+n) c3 (rest++x) w3 o3'.reads (Nat.le_refl _) bd3.1 bd3.2 (by omega)).mono ?_); rintro e w4 ⟨A4,k4,c4,rfl,o4,hb4⟩
     rw [← HL.out]
     have hs4:=hb4.size
     have hb4':Below w.heap.size w w4:=hb3.trans (hb4.mono hs3)
     have sl:=fun w=>slice_any A3 (k0+n) c3 (k0+n - L) w ((k0:Int)+n - (L:Int)) (by omega) (by omega) bd3.1
     have hcut:Reads w4 w3.heap.size 1 (if c3=k0+n - L then A3 else A3.map (·.add (k0+n - L))) (k0+n - (k0+n - L)) ((scan (rest++x)).2.map bv):=(by
      have h1:=Reads.cut (k:=k0+n - L) (o3'.reads.below hb4) (by omega) bd3.1
      rw [Nat.mul_one,← List.map_drop,HL.out,HLD.out] at h1
      rw [HL.out]
      exact h1)
     have HCUT:=Lib.hid hcut
     clear hcut
     generalize (if c3=k0+n - L then A3 else A3.map (·.add (k0+n - L)))=A3' at sl HCUT)
  | (at_builtin
     refine wpList_append_b rfl (.const (.slice none 0 0)) (.tmp 37) rfl w.heap.size none 0 0 [] rfl (OwnB.nil _ _) w3.heap.size A3' _ _ _ rfl HCUT.out (by omega) (by omega) ?_
     intro A5 k5 c5 w5 hk5 hk5' o5 hg5 _
     have hb5:Below w4.heap.size w4 w5:=(Below.refl _ _).grown hg5 (Nat.le_refl _) (fun k hk=>by cases hk)
     have hb5':Below w.heap.size w w5:=hb4'.trans (hb5.mono (by omega))
     have d5:=cell_below hb5' hcell hg
     have z5:=(frozen_below hb5' (a:=⟨g,0,none⟩) hg).trans hfz
     clear hg5))
 go_ret
 have hgs:=grownBy_setCell w5 ⟨g,0,none⟩ (.slice A5 k5 c5)
 have hs5:=hb5.size
 refine ⟨A4,k4,c4,A5,k5,c5,rfl,?_,World.cell?_setCell_same _ _ _ d5,by simpa using z5,?_,⟨hgs.os.trans hb5'.os,hgs.tape.trans hb5'.tape,hgs.output.trans hb5'.output,Nat.le_trans hb5'.size hgs.size,fun k hk hne=>(hgs.block k (by omega) hne).trans (hb5'.block k hk)⟩⟩
 ·have o5':=o4.belw hb5
  obtain ⟨vs,h1,h2⟩:=o5'
  refine OwnI.keep (w:=w5) (good:=g5 w5 w3.heap.size) ⟨vs,ownsRow_mono h1 hs3,h2⟩ hgs.size (fun g' hg' hlt=>hgs.block g' hlt ?_) (fun p hp hlt=>hgs.block p hlt ?_) (fun p hp hlt=>?_)
  ·have:=(OwnI.lt ⟨vs,h1,h2⟩ hg').1
   simp; omega
  ·have:=hp.1; simp; omega
  ·exact g5.of_eq ⟨Nat.le_trans hs3 hp.1,hp.2⟩ (hgs.block p hlt (by have:=hp.1; simp; omega))
 ·exact OwnB.grown o5 hgs (fun g' hA e=>by
   subst hA
   have e:g=g':=by injection e
   have:=o5.ltg.1
   omega)
end
section
open Go.RowKit Crc Fr St
def Strm (w:World) (base g:Nat) (rest:List UInt8):Prop :=
 g<w.heap.size∧w.frozen? ⟨g,0,none⟩=false∧∃ A k c,w.cell? ⟨g,0,none⟩=some (.slice A k c)∧OwnB w base A k c rest
theorem Strm.take {w:World} {base g:Nat} {rest:List UInt8} (h:Strm w base g rest) (B:Nat) (A:Option Addr) (n c:Nat) (x:List UInt8) (hr:Reads w B 1 A n (x.map bv)) (hB:B≤w.heap.size) (hn:n≤20000) (hl:rest.length≤20000) :
  Calls Tryz.prog 32 #[.pointer (some ⟨g,0,none⟩),.slice A n c] w fun e w'=>∃ A' k' c',e=.returned (.slice A' k' c')∧OwnI w' w.heap.size (g5 w' w.heap.size) A' k' c' (scan (rest++x)).1 ∧
   Strm w' w.heap.size g (scan (rest++x)).2∧w.grownBy w' (some g):=by
 obtain ⟨h1,h2,A0,k0,c0,h3,h4⟩:=h
 refine (take_any B A n c x w g base k0 c0 A0 rest hr hB hn (by have:=h4.length; omega) h1 h3 h2 h4).mono ?_
 rintro e w' ⟨A',k',c',A1,k1,c1,he,ho,hc,hz,hb,hg⟩
 exact ⟨A',k',c',he,ho,⟨by have:=hg.size; omega,hz,A1,k1,c1,hc,hb⟩,hg⟩
end
section
namespace Rg
variable {F:Fence} {n:Nat} {P:Program}
def recOf (fn:FuncId) (tmps:Array Value) (ps:Array Tmp) (assign body:Code) (d:Nat) (st:LoopState) (pe:Option Code):Loop :=
 { state:=st,pending:=pe,fn,tmps,params:=ps,assign,body,defers:=d }
def loopW (w:World) (fn:FuncId) (tmps:Array Value) (ps:Array Tmp) (assign body:Code):World :=
 (w.alloc (.deferred (some []))).alloc (.loop (recOf fn tmps ps assign body w.heap.size .ready none))
theorem range_any {g:Operand} {ps:Array Tmp} {assign body:Code} {Q:Exit→Act→World→Prop} {a:Act} {w:World}
  (hro:F.round=none) (h1:1≤n) {gf:Nat} {lb:Array Value} (hg:a.eval g=.func (.func gf) #[] lb) (hFg:F.fn gf) (eg:∀ args w,(callFunc gf args).run P w=.ok (.enter gf args) w)
  (J:World→Prop)
  (h:∀ fn,F.fn fn→CallsIn F (n - 1) P gf (#[.func (.yield (w.heap.size+1)) #[] #[]]++lb) (loopW w fn a.tmps ps assign body)
   (fun e W=>(∃ v,e=.returned v)∧J W∧W.heap[w.heap.size+1]?=some (.loop (recOf fn a.tmps ps assign body w.heap.size .ready none))∧W.heap[w.heap.size]?=some (.deferred (some []))))
  (hdone:∀ W r,J W→W.heap[w.heap.size]?=some (.deferred (some []))→Q .normal { a with defers:={ target:=.collected w.heap.size,args:=#[] }::a.defers } (W.putObj (w.heap.size+1) r)) :
  (Code.rangeFunc g ps assign body).wpIn F n P Q a w:=by
 refine wpIn_rangeFunc fun fn hfn=>?_
 rw [hro]
 refine ⟨w.heap.size+1,[{ target:=.collected w.heap.size,args:=#[] }],loopW w fn a.tmps ps assign body,{ target:=.fn (.func gf) lb,args:=#[.func (.yield (w.heap.size+1)) #[] #[]] },
  loopW w fn a.tmps ps assign body,gf,#[.func (.yield (w.heap.size+1)) #[] #[]]++lb,loopW w fn a.tmps ps assign body,?_,?_,?_,?_,fun _=>h1,?_⟩
 ·exact run_enterLoop_outer _ _ _ _ _
 ·simp only [resolve,hg]
  simp [go_sem]
 ·intro f' hf'
  simp [Target.leads] at hf'
  subst hf'
  exact hFg
 ·simp [invoke,go_sem,eg]
 ·refine (h fn hfn).mono ?_
  rintro e W ⟨⟨v,rfl⟩,hJ,hl,hd⟩
  exact ⟨none,_,by have:=run_endLoop (P:=P) hl (by simp [recOf]); exact this,hdone _ _ hJ hd⟩
end Rg
end
section
namespace Mc
open Go.RowKit Crc Fr St
open SE (Rc rcCells i64)
abbrev Foot:=Nat→Prop
structure Frm (O:Foot) (w w':World):Prop where
 size:w.heap.size≤w'.heap.size
 same:∀ n,n<w.heap.size→¬ O n→w'.heap[n]?=w.heap[n]?
 os:w'.os=w.os
 tape:w'.tape=w.tape
 output:w'.output=w.output
def grow (O:Foot) (w w':World):Foot:=fun n=>O n∨(w.heap.size≤n∧n<w'.heap.size)
structure Same (O:Foot) (w w':World):Prop where
 size:w.heap.size≤w'.heap.size
 same:∀ n,O n→w'.heap[n]?=w.heap[n]?
 os:w'.os=w.os
 tape:w'.tape=w.tape
 output:w'.output=w.output
theorem Frm.refl (O:Foot) (w:World):Frm O w w:=⟨Nat.le_refl _,fun _ _ _=>rfl,rfl,rfl,rfl⟩
theorem Frm.keeps {O A:Foot} {w w':World} (h:Frm O w w') (hlt:∀ n,A n→n<w.heap.size) (hd:∀ n,A n→¬ O n):Same A w w':=⟨h.size,fun n hn=>h.same n (hlt n hn) (hd n hn),h.os,h.tape,h.output⟩
theorem Same.mono {O O':Foot} {w w':World} (h:Same O w w') (ho:∀ n,O' n→O n):Same O' w w':=⟨h.size,fun n hn=>h.same n (ho n hn),h.os,h.tape,h.output⟩
def BRow (w:World) (base:Option Addr) (ln:Nat):Prop:=SE.ByteRow w base ln∧∀ x,base=some x→x.block<w.heap.size
structure ActOk (mo:Int) (cs:Array Value):Prop where
 ex:∃ m c o1 o2 o3 o4:Int,cs[0]?=some (i64 m)∧cs[1]?=some (i64 c)∧cs[2]?=some (i64 o1)∧cs[3]?=some (i64 o2)∧cs[4]?=some (i64 o3)∧cs[5]?=some (i64 o4) ∧
  (0≤m∧m≤4)∧(1≤c∧c≤3)∧(-mo≤o1∧o1≤mo)∧(-mo≤o2∧o2≤mo)∧(-mo≤o3∧o3≤mo)∧(-mo≤o4∧o4≤mo)
structure ToldV (mo:Int) (O:Foot) (w:World) (t:Value) (rs:List Rc):Prop where
 ex:∃ (cs:Array Value) (sb:Option Addr) (sl sc:Nat) (rb:Option Addr) (rl rc:Nat) (xs:List Value),t=.agg cs∧cs.size=46∧(∀ v∈cs.toList,v.oneCell'=true)∧ActOk mo cs∧cs[12]?=some (.slice sb sl sc)∧cs[13]?=some (.slice rb rl rc) ∧
  sl≤50∧rl≤50∧rl=rs.length∧Reads w w.heap.size 2 sb sl xs∧(∀ u∈xs,u.oneCell'=true)∧Reads w w.heap.size 6 rb rl (rcCells rs)∧(∀ r∈rs,0≤r.src∧r.src≤4)∧(∀ x,sb=some x→O x.block)∧∀ x,rb=some x→O x.block
def Comes {δ:Type} (K:δ→Foot→World→Prop) (mo:Int) (R:δ→δ→List Rc→Prop) (d:δ) (O:Foot) (w:World) (e:Ending) (w':World):Prop :=
 ∃ d' t rs,e=.returned t∧K d' (grow O w w') w'∧Frm O w w'∧ToldV mo (grow O w w') w' t rs∧R d d' rs
structure CoreI (Bc:Nat) {δ:Type} (K:δ→Foot→World→Prop) (mo:Int) (RB:Nat→δ→δ→List Rc→Prop) (RS RT:δ→δ→List Rc→Prop) (RH:Bool→δ→δ→List Rc→Prop):Prop where
 keep:∀ d O w w',K d O w→Same O w w'→K d O w'
 lt:∀ d O w n,K d O w→O n→n<w.heap.size
 now:∀ d O w,K d O w→Calls Tryz.prog 18 #[.pointer (some ⟨Bc,0,none⟩)] w fun e w'=>Comes K mo (fun d d' rs=>d=d'∧rs=[]) d O w e w'∧∃ cs:Array Value,e=.returned (.agg cs)∧cs[12]?=some (.slice none 0 0)∧cs[13]?=some (.slice none 0 0)
 item:∀ d O w (l:Nat) (code:Int) base ln cap,K d O w→1≤l→l≤3→0≤code→code≤100→ln≤32→ln≤cap→BRow w base ln→(∀ x,base=some x→¬ O x.block) →
  Calls Tryz.prog 33 #[.pointer (some ⟨Bc,0,none⟩),i64 l,.agg #[i64 code,.slice base ln cap]] w (Comes K mo (RB l) d O w)
 sample:∀ d O w (v g:Bool) (x1 x2 x3 x4:Int),K d O w→(∀ x∈[x1,x2,x3,x4],-9223372036854775808≤x∧x≤9223372036854775807)→Calls Tryz.prog 34 #[.pointer (some ⟨Bc,0,none⟩),.agg #[.bool v,i64 x1,i64 x2,i64 x3,i64 x4,.bool g]] w (Comes K mo RS d O w)
 health:∀ d O w (b:Bool),K d O w→Calls Tryz.prog 35 #[.pointer (some ⟨Bc,0,none⟩),.bool b] w (Comes K mo (RH b) d O w)
 tick:∀ d O w,K d O w→Calls Tryz.prog 36 #[.pointer (some ⟨Bc,0,none⟩)] w (Comes K mo RT d O w)
structure RoundI (mo:Int) (F:Fence) (n L:Nat) (J:Nat→List Rc→Foot→World→Prop):Prop where
 keep:∀ m rs A w w',J m rs A w→Same A w w'→J m rs A w'
 lt:∀ m rs A w n,J m rs A w→A n→n<w.heap.size
 round:∀ m rs A O w t rs',J m rs A w→m≤1000→rs.length≤100000→ToldV mo O w t rs'→(∀ n,A n→¬ O n)→YieldAt F (n - 1) Tryz.prog L #[t] w fun e w'=>e=.returned (.bool true)∧J (m+1) (rs++rs') (grow A w w') w'∧Frm A w w'
theorem Same.cell {O:Foot} {w w':World} (h:Same O w w') {a:Addr} (ha:O a.block):w'.cell? a=w.cell? a:=World.cell?_of_block (h.same a.block ha)
theorem Same.frozen {O:Foot} {w w':World} (h:Same O w w') {a:Addr} (ha:O a.block):w'.frozen? a=w.frozen? a:=World.frozen?_of_block (h.same a.block ha)
theorem Frm.cell {O:Foot} {w w':World} (h:Frm O w w') {a:Addr} (hlt:a.block<w.heap.size) (ha:¬ O a.block):w'.cell? a=w.cell? a:=World.cell?_of_block (h.same a.block hlt ha)
theorem Frm.frozen {O:Foot} {w w':World} (h:Frm O w w') {a:Addr} (hlt:a.block<w.heap.size) (ha:¬ O a.block):w'.frozen? a=w.frozen? a:=World.frozen?_of_block (h.same a.block hlt ha)
end Mc
end
section
namespace SE
open Go.RowKit Mc
variable {X:Px} {own0:Nat→Prop} {w0 w w':World} {E E':Env} {st st':SE.St} {pc:Array Value}
structure Num where
 on:Int×Int×Int
 ro:Int×Int×Int
 wt:Int×Int×Int
def At3 (E:Env) (i:Nat) (p:Int×Int×Int):Prop:=E i=some (.z p.1)∧E (i+1)=some (.z p.2.1)∧E (i+2)=some (.z p.2.2)
structure NumE (E:Env) (b:Nat) (d:Num):Prop where
 on:At3 E (b+231) d.on
 ro:At3 E (b+234) d.ro
 wt:At3 E (b+237) d.wt
def get3 (p:Int×Int×Int) (s:Int):Int:=if s=1 then p.1 else if s=2 then p.2.1 else p.2.2
theorem get3_put {p:Int×Int×Int} {s t v:Int} (hs:1≤s∧s≤3) (ht:1≤t∧t≤3):get3 (put3 p t v) s=if s=t then v else get3 p s:=by
 have h1:s=1∨s=2∨s=3:=by omega
 have h2:t=1∨t=2∨t=3:=by omega
 rcases h1 with rfl | rfl | rfl <;> rcases h2 with rfl | rfl | rfl <;> simp [get3,put3]
theorem put3_out {p:Int×Int×Int} {t v:Int} (ht:¬ (1≤t∧t≤3)):put3 p t v=p:=put3_no ht p v
theorem get3_put' {p:Int×Int×Int} {s t v:Int} (hs:1≤s∧s≤3):get3 (put3 p t v) s=if s=t then v else get3 p s:=by
 by_cases ht:1≤t∧t≤3
 ·exact get3_put hs ht
 ·rw [put3_out ht,if_neg (by omega)]
def fold (d:Num) (rs:List Rc):Fd:=rs.foldl Fd.step ⟨d.on,d.wt,(0,0,0)⟩
theorem step_en (f:Fd) (r:Rc):(f.step r).en=if r.kind=3 then put3 f.en r.src 1 else f.en:=by
 unfold Fd.step
 split
 ·rfl
 ·split
  ·rfl
  ·split
   ·rfl
   ·split <;> rfl
theorem en_keeps {s:Int} (hs:1≤s∧s≤3):∀ (rs:List Rc) (f:Fd),get3 f.en s=1→get3 (rs.foldl Fd.step f).en s=1
 | [],f,h=>h
 | r::rs,f,h=>by
  refine en_keeps hs rs _ ?_
  rw [step_en]
  split
  ·rw [get3_put' hs]
   split
   ·rfl
   ·exact h
  ·exact h
theorem en_zero {s:Int} (hs:1≤s∧s≤3):∀ (rs:List Rc) (f:Fd),get3 (rs.foldl Fd.step f).en s=0→∀ r∈rs,r.kind=3→r.src≠s
 | [],f,h,r,hr,_=>by cases hr
 | q::rs,f,h,r,hr,hk=>by
  rcases List.mem_cons.1 hr with rfl | hr
  ·intro e
   have:=en_keeps hs rs (f.step r) (by rw [step_en,if_pos hk,get3_put' hs,if_pos e.symm])
   rw [List.foldl_cons] at h
   rw [this] at h
   cases h
  ·exact en_zero hs rs _ (by rw [List.foldl_cons] at h; exact h) r hr hk
theorem en_one {s:Int} (hs:1≤s∧s≤3):∀ (rs:List Rc) (f:Fd),get3 (rs.foldl Fd.step f).en s=1→get3 f.en s=1∨∃ r∈rs,r.kind=3∧r.src=s
 | [],f,h=>.inl h
 | q::rs,f,h=>by
  rcases en_one hs rs _ (by rw [List.foldl_cons] at h; exact h) with h | ⟨r,hr,h1,h2⟩
  ·rw [step_en] at h
   split at h
   ·rename_i hk
    rw [get3_put' hs] at h
    split at h
    ·rename_i e
     exact .inr ⟨q,List.mem_cons_self,hk,e.symm⟩
    ·exact .inl h
   ·exact .inl h
  ·exact .inr ⟨r,List.mem_cons_of_mem _ hr,h1,h2⟩
structure Rel (late:Bool) (who:Int→Prop) (d d':Num) (rs:List Rc):Prop where
 on:(fold d rs).on=d'.on
 wt:late=false→(fold d rs).wt=d'.wt
 wtl:∀ s,1≤s→s≤3→get3 d'.wt s≤get3 (fold d rs).wt s
 en:∀ r∈rs,r.kind=3→1≤r.src∧r.src≤3→who r.src
 role:∀ s,1≤s→s≤3→(∃ r∈rs,r.kind=3∧r.src=s)∨get3 d'.on s=0∨get3 d'.ro s=get3 d.ro s
def sees (wL:World) (E:Env) (n:Nat):Prop :=
 n<wL.heap.size∨(∃ id blk,lk coreHeap id=some blk∧E id=some (.blk n))∨(∃ id len a ln cap,lk coreSls id=some (.bytes len)∧E id=some (.sl (some a) ln cap)∧a.block=n)∨∃ cs,glT n=some cs
structure KC (pc:Array Value) (wL:World) (Bc:Nat) (d:Num) (O:Foot) (w:World):Prop where
 ex:∃ E,G (Xc pc) (fun _=>False) wL E coreSt w∧NumE E 0 d∧E 1=some (.blk Bc)∧∀ n,sees wL E n→O n
 lt:∀ n,O n→n<w.heap.size
theorem KC.keep {wL:World} {Bc:Nat} {d:Num} {O:Foot} (h:KC pc wL Bc d O w) (hS:Same O w w'):KC pc wL Bc d O w':=by
 obtain ⟨⟨E,g,hn,h1,hs⟩,hlt⟩:=h
 refine ⟨⟨E,(g.keep hS.size (fun n hn hsee=>hS.same n (hs n ?_)) hS.os hS.tape hS.output),hn,h1,hs⟩,fun n hO=>Nat.lt_of_lt_of_le (hlt n hO) hS.size⟩
 rcases hsee with h | h | h | h
 ·exact .inl h
 ·exact .inr (.inl h)
 ·exact .inr (.inr (.inl h))
 ·exact .inr (.inr (.inr h))
def renT:List (Nat×Rn):=(List.range 300).map fun i=>(i,lfT i)
theorem lk_renT {i:Nat} (h:i<300):lk renT i=some (lfT i):=by
 have:∀ n a,a≤i→i<a+n→lk ((List.range' a n).map fun i=>(i,lfT i)) i=some (lfT i):=by
  intro n
  induction n with
  | zero=>intro a h1 h2; omega
  | succ n ih =>
   intro a h1 h2
   rw [List.range'_succ,List.map_cons,lk_cons]
   split
   ·rename_i e; rw [e]
   ·exact ih (a+1) (by omega) (by omega)
 have:=this 300 0 (by omega) (by omega)
 rw [← List.range_eq_range'] at this
 exact this
theorem env_renT {E:Env} {i j:Nat} (h:i<300) (hj:lfT i=.nm j):envOf ⟨0,renT⟩ E i=E j:=by
 simp only [envOf,rnf0,lk_renT h,hj]
structure TlOk (S:SE.St) (n:Int) (ws:List SV) (a b c:Int):Prop where
 m:lk S.tab 2000214=some (0,4)
 cl:lk S.tab 2000215=some (1,3)
 o0:(0,[A 2000220])∈S.facts
 o1:(0,[A 2000221])∈S.facts
 o2:(0,[A 2000222])∈S.facts
 o3:(0,[A 2000223])∈S.facts
 s31:lk S.sls 2000031=some (.own 2000006 3 [U 0 n])
 s32:lk S.sls 2000032=some (.own 2000007 2 ([U 0 n,A 231,A 232,A 233,A 237,A 238,A 239]++newF++ws++[N a,N b,N c]))
 f1:lk S.tab 2000231=some (0,1)
 f2:lk S.tab 2000232=some (0,1)
 f3:lk S.tab 2000233=some (0,1)
 r1:lk S.tab 2000234=some (0,3)
 r2:lk S.tab 2000235=some (0,3)
 r3:lk S.tab 2000236=some (0,3)
 q1:lk S.tab 2000237=some (0,1)
 q2:lk S.tab 2000238=some (0,1)
 q3:lk S.tab 2000239=some (0,1)
 l1:(12,[N a,A 2000231,A 2000234,A 234])∈S.facts
 l2:(12,[N b,A 2000232,A 2000235,A 235])∈S.facts
 l3:(12,[N c,A 2000233,A 2000236,A 236])∈S.facts
 fc:fit coreSt S zT ⟨0,renT⟩=true
 ro:∀ id blk,lk S.heap id=some blk→blk.isRo=false
theorem rA {E:Env} {i:Nat} {z:Int} {v:Value} (h:E i=some (.z z)) (hr:R E (A i) v):v=i64 z:=by
 simp only [A,R,SIok] at hr
 obtain ⟨y,hy,rfl⟩:=hr
 rw [h] at hy
 cases hy
 rfl
theorem rA' {E:Env} {i:Nat} {z:Int} (hr:R E (A i) (i64 z)):E i=some (.z z):=by
 simp only [A,R,SIok] at hr
 obtain ⟨y,hy,e⟩:=hr
 cases e
 exact hy
theorem rN {E:Env} {n z:Int} (hr:R E (N n) (i64 z)):z=n:=by
 simp only [N,R,SIok] at hr
 obtain ⟨y,hy,e⟩:=hr
 cases e
 omega
theorem own_reads {nm e sz:Nat} {vs:List Value} {base:Option Addr} {ln cap b:Nat} (hE:X.T.ownE nm=some (e,sz)) (hb:∀ x,base=some x→E b=some (.blk x.block)) (hlt:∀ n,E b=some (.blk n)→n<w.heap.size)
  (h:OwnRow X nm vs base ln cap (base.bind fun x=>w.heap[x.block]?)):∃ us rest,vs=i64 ln::rest∧Reads w w.heap.size sz base ln us∧X.RP nm rest us:=by
 obtain ⟨e',sz',rest,h1,h2,h3⟩:=h
 rw [hE] at h1
 cases h1
 rcases h3 with ⟨rfl,rfl,_,h3⟩ | ⟨n,us,rfl,h3,h4,h5,h6⟩
 ·exact ⟨[],rest,h2,⟨by simp,fun h=>absurd h (by omega)⟩,h3⟩
 ·refine ⟨us.toList.take (ln*sz),rest,h2,⟨?_,fun _=>⟨_,rfl,hlt n (hb _ rfl),fun j u hu=>?_⟩⟩,h6⟩
  ·rw [List.length_take,Array.length_toList,h4]
   exact Nat.min_eq_left (Nat.mul_le_mul_right _ h5)
  ·simp only [Option.bind_some] at h3
   rw [add_none,Nat.zero_add,cell_at h3]
   rw [List.getElem?_take] at hu
   split at hu
   ·simpa using hu
   ·cases hu
theorem core_told {S:SE.St} {n a b c:Int} {ws:List SV} (ht:TlOk S n ws a b c) (hn:n≤50) {d:Num} (g:G (Xc pc) own0 w0 E' S w') {t:Value} (hr:R E' tlV t) (hd:NumE E' 0 d) {O:Foot} (hO:∀ i n,(∃ blk,lk S.heap i=some blk)→E' i=some (.blk n)→O n) :
  ∃ d' rs vs,NumE E' 2000000 d'∧ToldV (mostOf pc) O w' t rs∧RL E' ws vs∧(fold d rs).on=d'.on∧vs=[i64 (fold d rs).wt.1,i64 (fold d rs).wt.2.1,i64 (fold d rs).wt.2.2]∧(fold d rs).en=(a,b,c) ∧
   (∀ s,1≤s→s≤3→get3 (fold d rs).en s=1∨get3 d'.on s=0∨get3 d'.ro s=get3 d.ro s)∧(∀ s,1≤s→s≤3→get3 d'.on s=0∨get3 d'.on s=1)∧(∀ s,1≤s→s≤3→get3 d'.wt s=0∨get3 d'.wt s=1):=by
 obtain ⟨f1,ef1,bf1⟩:=g.tab _ _ _ ht.f1
 obtain ⟨f2,ef2,bf2⟩:=g.tab _ _ _ ht.f2
 obtain ⟨f3,ef3,bf3⟩:=g.tab _ _ _ ht.f3
 obtain ⟨r1,er1,br1⟩:=g.tab _ _ _ ht.r1
 obtain ⟨r2,er2,br2⟩:=g.tab _ _ _ ht.r2
 obtain ⟨r3,er3,br3⟩:=g.tab _ _ _ ht.r3
 obtain ⟨q1,eq1,bq1⟩:=g.tab _ _ _ ht.q1
 obtain ⟨q2,eq2,bq2⟩:=g.tab _ _ _ ht.q2
 obtain ⟨q3,eq3,bq3⟩:=g.tab _ _ _ ht.q3
 obtain ⟨mz,em,bm⟩:=g.tab _ _ _ ht.m
 obtain ⟨cz,ec,bc⟩:=g.tab _ _ _ ht.cl
 have hout:∀ i,(0,[A i])∈S.facts→∃ z,E' i=some (.z z)∧-mostOf pc≤z∧z≤mostOf pc:=by
  intro i hi
  obtain ⟨vs,h1,z,rfl,h2,h3⟩:=g.facts _ hi
  exact ⟨z,rA' (RL_cons.1 h1).1,h2,h3⟩
 obtain ⟨z0,ez0,bz0⟩:=hout _ ht.o0
 obtain ⟨z1,ez1,bz1⟩:=hout _ ht.o1
 obtain ⟨z2,ez2,bz2⟩:=hout _ ht.o2
 obtain ⟨z3,ez3,bz3⟩:=hout _ ht.o3
 simp only [tlV,R] at hr
 obtain ⟨cs,rfl,hl⟩:=hr
 obtain ⟨_,sb,sl,sc,svs,e31,rl31,hb31,ow31⟩:=g.sls _ _ ht.s31
 obtain ⟨_,rb,rl,rc,rvs,e32,rl32,hb32,ow32⟩:=g.sls _ _ ht.s32
 have hlt:∀ i nb,(∃ blk,lk S.heap i=some blk)→E' i=some (.blk nb)→nb<w'.heap.size:=fun i nb ⟨blk,hl⟩ he=>(g.hown hl he).1
 have h6:=(g.sls _ _ ht.s31).1
 have h7:=(g.sls _ _ ht.s32).1
 obtain ⟨us31,rest31,rfl,rd31,rp31⟩:=own_reads (X:=Xc pc) (nm:=3) (e:=252) (sz:=2) rfl hb31 (fun n h=>hlt _ n ⟨_,h6⟩ h) ow31
 obtain ⟨us32,rest32,rfl,rd32,rp32⟩:=own_reads (X:=Xc pc) (nm:=2) (e:=60) (sz:=6) rfl hb32 (fun n h=>hlt _ n ⟨_,h7⟩ h) ow32
 have hsl:(sl:Int)≤n:=by
  have:=(RL_cons.1 rl31).1
  simp only [U,R,SIok] at this
  obtain ⟨y,hy,e⟩:=this
  cases e
  exact hy.2
 rw [List.cons_append,List.cons_append,List.cons_append] at rl32
 obtain ⟨hrl,rl32⟩:=RL_cons.1 rl32
 have hrl:(rl:Int)≤n:=by
  simp only [U,R,SIok] at hrl
  obtain ⟨y,hy,e⟩:=hrl
  cases e
  exact hy.2
 obtain ⟨x1,x2,x3,y1,y2,y3,rs,hsrc,rfl,rfl⟩:=rp32
 simp only [newF,List.cons_append,List.nil_append,RL_cons] at rl32
 obtain ⟨k1,k2,k3,k4,k5,k6,rl32⟩:=rl32
 have hwl:∃ p1 p2 p3,ws=[p1,p2,p3]:=by
  have:=RL_length rl32
  simp only [Fd.nums,List.length_cons,List.length_nil,List.length_append] at this
  match ws,this with
  | [p1,p2,p3],_=>exact ⟨p1,p2,p3,rfl⟩
 obtain ⟨p1,p2,p3,rfl⟩:=hwl
 simp only [Fd.nums,List.cons_append,List.nil_append,RL_cons] at rl32
 obtain ⟨m1,m2,m3,n1,n2,n3,v1,v2,v3,_⟩:=rl32
 have eo1:=hd.on.1
 have eo2:=hd.on.2.1
 have eo3:=hd.on.2.2
 have ew1:=hd.wt.1
 have ew2:=hd.wt.2.1
 have ew3:=hd.wt.2.2
 have er1':=hd.ro.1
 have er2':=hd.ro.2.1
 have er3':=hd.ro.2.2
 simp only [Nat.zero_add,Nat.reduceAdd] at eo1 eo2 eo3 ew1 ew2 ew3 er1' er2' er3'
 have u1:x1=d.on.1:=by have:=rA eo1 k1; simpa [i64] using this
 have u2:x2=d.on.2.1:=by have:=rA eo2 k2; simpa [i64] using this
 have u3:x3=d.on.2.2:=by have:=rA eo3 k3; simpa [i64] using this
 have u4:y1=d.wt.1:=by have:=rA ew1 k4; simpa [i64] using this
 have u5:y2=d.wt.2.1:=by have:=rA ew2 k5; simpa [i64] using this
 have u6:y3=d.wt.2.2:=by have:=rA ew3 k6; simpa [i64] using this
 subst u1 u2 u3 u4 u5 u6
 have hfold:List.foldl Fd.step ⟨(d.on.1,d.on.2.1,d.on.2.2),(d.wt.1,d.wt.2.1,d.wt.2.2),(0,0,0)⟩ rs=fold d rs:=rfl
 rw [hfold] at m1 m2 m3 n1 n2 n3 v1 v2 v3
 refine ⟨⟨(f1,f2,f3),(r1,r2,r3),(q1,q2,q3)⟩,rs,[i64 (fold d rs).wt.1,i64 (fold d rs).wt.2.1,i64 (fold d rs).wt.2.2],⟨⟨ef1,ef2,ef3⟩,⟨er1,er2,er3⟩,⟨eq1,eq2,eq3⟩⟩,?_,?_,?_,rfl,?_,?_,?_,?_⟩
 ·have hi:∀ {i:Nat} {x:SV},nth (tlHead++[.sl 2000031,.sl 2000032]++rep 32 byteCell) i=some x→∃ v,cs[i]?=some v∧R E' x v:=fun {i x} h=>by
   obtain ⟨v,h1,h2⟩:=RL_nth hl h
   exact ⟨v,by simpa using h1,h2⟩
  obtain ⟨v0,c0,h0⟩:=hi (i:=0) (x:=A 2000214) rfl
  obtain ⟨v1,c1,h1⟩:=hi (i:=1) (x:=A 2000215) rfl
  obtain ⟨v2,c2,h2⟩:=hi (i:=2) (x:=A 2000220) rfl
  obtain ⟨v3,c3,h3⟩:=hi (i:=3) (x:=A 2000221) rfl
  obtain ⟨v4,c4,h4⟩:=hi (i:=4) (x:=A 2000222) rfl
  obtain ⟨v5,c5,h5⟩:=hi (i:=5) (x:=A 2000223) rfl
  obtain ⟨v12,c12,h12⟩:=hi (i:=12) (x:=.sl 2000031) rfl
  obtain ⟨v13,c13,h13⟩:=hi (i:=13) (x:=.sl 2000032) rfl
  rw [rA em h0] at c0
  rw [rA ec h1] at c1
  rw [rA ez0 h2] at c2
  rw [rA ez1 h3] at c3
  rw [rA ez2 h4] at c4
  rw [rA ez3 h5] at c5
  simp only [R] at h12 h13
  obtain ⟨b1,l1,p1',e1,rfl⟩:=h12
  obtain ⟨b2,l2,p2',e2,rfl⟩:=h13
  rw [e31] at e1
  cases e1
  rw [e32] at e2
  cases e2
  refine ⟨cs,sb,sl,sc,rb,rl,rc,us31,rfl,?_,allCell_one hl rfl,⟨mz,cz,z0,z1,z2,z3,c0,c1,c2,c3,c4,c5,bm,bc,bz0,bz1,bz2,bz3⟩,c12,c13,by omega,by omega,?_,rd31,rp31.2,rd32,hsrc,fun x hx=>hO _ _ ⟨_,h6⟩ (hb31 x hx),fun x hx=>hO _ _ ⟨_,h7⟩ (hb32 x hx)⟩
  ·have:=RL_length hl
   rw [Array.length_toList] at this
   exact this
  ·have:=rd32.1
   have hc:∀ l:List Rc,(rcCells l).length=l.length*6:=fun l=>by
    induction l with
    | nil=>rfl
    | cons r l ih=>simp only [rcCells,Rc.cells,List.length_append,List.length_cons,List.length_nil,ih]; omega
   rw [hc] at this
   omega
 ·exact RL_cons.2 ⟨n1,RL_cons.2 ⟨n2,RL_cons.2 ⟨n3,by simp [RL]⟩⟩⟩
 ·have a1:(fold d rs).on.1=f1:=by have:=rA ef1 m1; simpa [i64] using this
  have a2:(fold d rs).on.2.1=f2:=by have:=rA ef2 m2; simpa [i64] using this
  have a3:(fold d rs).on.2.2=f3:=by have:=rA ef3 m3; simpa [i64] using this
  show (fold d rs).on=(f1,f2,f3)
  rw [← a1,← a2,← a3]
 ·have a1:=rN v1
  have a2:=rN v2
  have a3:=rN v3
  show (fold d rs).en=(a,b,c)
  rw [← a1,← a2,← a3]
 ·have hrole:∀ {e:Int} {i j k:Nat} {f r r0:Int},(12,[N e,A i,A j,A k])∈S.facts→E' i=some (.z f)→E' j=some (.z r)→E' k=some (.z r0)→e=1∨f=0∨r=r0:=by
   intro e i j k f r r0 hm hi hj hk
   obtain ⟨vs,h1,e',f',r',r0',rfl,h2⟩:=g.facts _ hm
   simp only [RL_cons] at h1
   obtain ⟨h3,h4,h5,h6,_⟩:=h1
   have g3:=rN h3
   have g4:f'=f:=by have:=rA hi h4; simpa [i64] using this
   have g5:r'=r:=by have:=rA hj h5; simpa [i64] using this
   have g6:r0'=r0:=by have:=rA hk h6; simpa [i64] using this
   subst g3 g4 g5 g6
   exact h2
  have a1:=rN v1
  have a2:=rN v2
  have a3:=rN v3
  intro s h1 h2
  have h3:s=1∨s=2∨s=3:=by omega
  rcases h3 with rfl | rfl | rfl <;> simp only [get3]
  ·have:=hrole ht.l1 ef1 er1 er1'
   simpa [a1] using this
  ·have:=hrole ht.l2 ef2 er2 er2'
   simpa [a2] using this
  ·have:=hrole ht.l3 ef3 er3 er3'
   simpa [a3] using this
 ·intro s h1 h2
  have h3:s=1∨s=2∨s=3:=by omega
  rcases h3 with rfl | rfl | rfl <;> simp [get3] <;> omega
 ·intro s h1 h2
  have h3:s=1∨s=2∨s=3:=by omega
  rcases h3 with rfl | rfl | rfl <;> simp [get3] <;> omega
end SE
end
section
namespace SE
open Go.RowKit Mc
variable {own0:Nat→Prop} {w0 w w':World} {E E':Env} {st st':SE.St} {pc:Array Value}
structure OutOk (late:Bool) (who:Int→Prop) (o:SV×SE.St):Prop where
 ex:∃ n ws a b c,o.1=tlV∧n≤50∧TlOk o.2 n ws a b c∧(late=false→ws=newB3) ∧
  (late=true→ws=lateB∧(7,[A 2000237,A 2000246])∈o.2.facts∧(7,[A 2000238,A 2000247])∈o.2.facts∧(7,[A 2000239,A 2000248])∈o.2.facts) ∧
  (∀ s,1≤s→s≤3→get3 (a,b,c) s≠0→who s)∧(∀ s,1≤s→s≤3→get3 (a,b,c) s=0∨get3 (a,b,c) s=1)
theorem At3.le {i:Nat} {p:Int×Int×Int} (h:At3 E i p) (hle:E.le E'):At3 E' i p:=⟨hle _ _ h.1,hle _ _ h.2.1,hle _ _ h.2.2⟩
theorem NumE.le {b:Nat} {d:Num} (h:NumE E b d) (hle:E.le E'):NumE E' b d:=⟨h.on.le hle,h.ro.le hle,h.wt.le hle⟩
theorem At3.ren {i:Nat} {p:Int×Int×Int} (h:At3 E (2000000+i) p) (h1:i+2<300) (k:lfT i=.nm (2000000+i)∧lfT (i+1)=.nm (2000000+i+1)∧lfT (i+2)=.nm (2000000+i+2)):At3 (envOf ⟨0,renT⟩ E) i p :=
 ⟨by rw [env_renT (by omega) k.1]; exact h.1,by rw [env_renT (by omega) k.2.1]; exact h.2.1,by rw [env_renT (by omega) k.2.2]; exact h.2.2⟩
theorem core_hgl:GlOk (Xc pc):=fun gg cs h=>glc_ok (pc:=pc) gg cs h
theorem core_hZ (hp:PolFit pc):FzOk (Xc pc) zT:=fun own0 w0 E st w g k svs h=>fzc hp own0 w0 E st w g k svs h
structure Like (S:SE.St):Prop where
 heap:S.heap=coreHeap
 sls:∀ id len,lk coreSls id=some (.bytes len)→lk S.sls id=some (.bytes len)
theorem core_lk_bytes {id:Nat} {len:SI} (h:lk coreSls id=some (.bytes len)):21≤id∧id≤24:=by
 simp only [coreSls,lk_cons] at h
 repeat' split at h
 all_goals first
  | omega
  | (cases h; done)
  | (simp [lk] at h)
theorem core_lk_heap {id:Nat} {blk:Blk} (h:lk coreHeap id=some blk):blk.isRo=false∧id<300:=by
 simp only [coreHeap,lk_cons] at h
 repeat' split at h
 all_goals first
  | (cases h; exact ⟨rfl,by omega⟩)
  | (simp [lk] at h)
theorem ownB_sees' {wL:World} {S:SE.St} (hS:Like S) {n:Nat} (h:ownB E S n):sees wL E n:=by
 obtain ⟨id,blk,h1,h2,h3⟩:=h
 rw [hS.heap] at h1
 exact .inr (.inl ⟨id,blk,h1,h3⟩)
theorem core_after (hp:PolFit pc) {wL:World} {Bc:Nat} {d':Num} {O:Foot} {S T:SE.St} {ren:List (Nat×Rn)} (hS:Like S) (g:G (Xc pc) (fun _=>False) wL E S w) (g1:G (Xc pc) (fun _=>False) wL E' T w') (g2:G (Xc pc) (ownB E S) w E' T w') (hle:E.le E') (hfc:fit coreSt T zT ⟨0,ren⟩=true)
  (hro:∀ id blk,lk T.heap id=some blk→blk.isRo=false) (h1:E 1=some (.blk Bc)) (hs:∀ n,sees wL E n→O n) (hlt:∀ n,O n→n<w.heap.size) (he1:envOf ⟨0,ren⟩ E' 1=E' 1) (he2:∀ id,21≤id→id≤24→envOf ⟨0,ren⟩ E' id=E' id)
  (hd:NumE (envOf ⟨0,ren⟩ E') 0 d'):KC pc wL Bc d' (grow O w w') w'∧Frm O w w':=by
 have hfr:Frm O w w':=⟨g2.size,fun n hn hno=>g2.frame n hn fun h=>hno (hs n (ownB_sees' hS h)),g2.os,g2.tape,g2.output⟩
 refine ⟨⟨⟨envOf ⟨0,ren⟩ E',fit_same g1 hfc core_hgl (core_hZ hp),hd,?_,?_⟩,?_⟩,hfr⟩
 ·rw [he1]
  exact hle _ _ h1
 ·intro n hn
  rcases hn with hL | ⟨id,blk,h2,h3⟩ | ⟨id,len,a,ln,cap,h2,h3,rfl⟩ | ⟨cs,hc⟩
  ·exact .inl (hs n (.inl hL))
  ·have hfit:=hfc
   simp only [fit,Bool.and_eq_true] at hfit
   obtain ⟨j,blk',k0,k1,k2,k3⟩:=fitH_ok hfit.1 (id:=id) (blk:=blk) h2
   have he:E' j=some (.blk n):=by
    have:envOf ⟨0,ren⟩ E' id=E' j:=by simp only [envOf,k1]
    rw [← this]; exact h3
   obtain ⟨q1,q2⟩:=g2.hown k2 he
   rcases q2 with q | q | q
   ·rw [hro _ _ k2] at q; cases q
   ·exact .inl (hs n (ownB_sees' hS q))
   ·exact .inr ⟨q,q1⟩
  ·obtain ⟨b1,b2⟩:=core_lk_bytes h2
   rw [he2 id b1 b2] at h3
   obtain ⟨base,l2,c2,e2,_⟩:=g.sls _ _ (hS.sls id len h2)
   have:=hle _ _ e2
   rw [h3] at this
   cases this
   exact .inl (hs _ (.inr (.inr (.inl ⟨id,len,a,ln,cap,h2,e2,rfl⟩))))
  ·exact .inl (hs n (.inr (.inr (.inr ⟨cs,hc⟩))))
 ·intro n hn
  rcases hn with h | h
  ·exact Nat.lt_of_lt_of_le (hlt n h) g2.size
  ·exact h.2
theorem renT_low {id:Nat} (h1:21≤id) (h2:id≤24):envOf ⟨0,renT⟩ E id=E id:=by
 have hlf:lfT id=.nm id:=by
  have:id=21∨id=22∨id=23∨id=24:=by omega
  rcases this with rfl | rfl | rfl | rfl <;> rfl
 exact env_renT (by omega) hlf
theorem renT_num {d:Num} (hd:NumE E 2000000 d):NumE (envOf ⟨0,renT⟩ E) 0 d :=
 ⟨At3.ren hd.on (by decide) ⟨rfl,rfl,rfl⟩,At3.ren hd.ro (by decide) ⟨rfl,rfl,rfl⟩,At3.ren hd.wt (by decide) ⟨rfl,rfl,rfl⟩⟩
theorem core_call (hp:PolFit pc) {wL:World} {gi:Nat} {m:Sm} {Bc:Nat} {late:Bool} {who:Int→Prop} {d:Num} {O:Foot} (hsm:SmOk (Xc pc) gi m) (houts:∀ o∈m.outs,OutOk late who o) (hS:Like m.S)
  (g:G (Xc pc) (fun _=>False) wL E m.S w) (hd:NumE E 0 d) (h1:E 1=some (.blk Bc)) (hs:∀ n,sees wL E n→O n) (hlt:∀ n,O n→n<w.heap.size) {vals:Array Value} (hr:RL E m.args vals.toList) :
  Calls Tryz.prog gi vals w (Mc.Comes (KC pc wL Bc) (mostOf pc) (Rel late who) d O w):=by
 refine (hsm.use g hr).mono fun e w' he=>?_
 obtain ⟨o,ho,E',x,hle,rfl,hrx,g1,g2⟩:=he
 obtain ⟨n,ws,a,b,c,e1,hn,ht,hex,hla,hwho,h01⟩:=(houts o ho).ex
 rw [e1] at hrx
 obtain ⟨d',rs,vs,hd',hT,hws,hon,hvs,hen,hrole,hon01,hwt01⟩:=core_told ht hn g1 hrx (hd.le hle) (O:=grow O w w') (fun i n ⟨blk,hl⟩ he=>by
  obtain ⟨q1,q2⟩:=g2.hown hl he
  rcases q2 with q | q | q
  ·rw [ht.ro _ _ hl] at q; cases q
  ·exact .inl (hs n (ownB_sees' hS q))
  ·exact .inr ⟨q,q1⟩)
 obtain ⟨hK,hF⟩:=core_after hp hS g g1 g2 hle ht.fc ht.ro h1 hs hlt (env_renT (by decide) (j:=1) rfl) (fun id a b=>renT_low a b) (renT_num hd')
 refine ⟨d',x,rs,rfl,hK,hF,hT,hon,?_,?_,?_,?_⟩
 ·intro hl
  rw [hex hl,hvs] at hws
  simp only [newB3,RL_cons] at hws
  obtain ⟨k1,k2,k3,_⟩:=hws
  have a1:(fold d rs).wt.1=d'.wt.1:=by have:=rA hd'.wt.1 k1; simpa [i64] using this
  have a2:(fold d rs).wt.2.1=d'.wt.2.1:=by have:=rA hd'.wt.2.1 k2; simpa [i64] using this
  have a3:(fold d rs).wt.2.2=d'.wt.2.2:=by have:=rA hd'.wt.2.2 k3; simpa [i64] using this
  exact Prod.ext a1 (Prod.ext a2 a3)
 ·cases late with
  | false =>
   rw [hex rfl,hvs] at hws
   simp only [newB3,RL_cons] at hws
   obtain ⟨k1,k2,k3,_⟩:=hws
   have a1:(fold d rs).wt.1=d'.wt.1:=by have:=rA hd'.wt.1 k1; simpa [i64] using this
   have a2:(fold d rs).wt.2.1=d'.wt.2.1:=by have:=rA hd'.wt.2.1 k2; simpa [i64] using this
   have a3:(fold d rs).wt.2.2=d'.wt.2.2:=by have:=rA hd'.wt.2.2 k3; simpa [i64] using this
   intro s _ _
   simp only [get3,a1,a2,a3]
   exact Int.le_refl _
  | true =>
   obtain ⟨rfl,l1,l2,l3⟩:=hla rfl
   rw [hvs] at hws
   simp only [lateB,RL_cons] at hws
   obtain ⟨k1,k2,k3,_⟩:=hws
   have hle7:∀ {i j:Nat} {x y:Int},(7,[A i,A j])∈o.2.facts→E' i=some (.z x)→R E' (A j) (i64 y)→x≤y:=by
    intro i j x y hm hi hj
    obtain ⟨us,q1,a',b',rfl,q2⟩:=g1.facts _ hm
    simp only [RL_cons] at q1
    have e1:a'=x:=by have:=rA hi q1.1; simpa [i64] using this
    have e2:b'=y:=by have:=rA (rA' hj) q1.2.1; simpa [i64] using this
    rw [← e1,← e2]
    exact q2
   have a1:=hle7 l1 hd'.wt.1 k1
   have a2:=hle7 l2 hd'.wt.2.1 k2
   have a3:=hle7 l3 hd'.wt.2.2 k3
   intro s s1 s2
   have h3:s=1∨s=2∨s=3:=by omega
   rcases h3 with rfl | rfl | rfl <;> simpa [get3] using (by assumption)
 ·intro r hr hk hsr
  refine hwho _ hsr.1 hsr.2 fun h0=>?_
  exact en_zero hsr rs _ (by show get3 (fold d rs).en r.src=0; rw [hen]; exact h0) r hr hk rfl
 ·intro s s1 s2
  rcases hrole s s1 s2 with h | h | h
  ·rcases en_one ⟨s1,s2⟩ rs ⟨d.on,d.wt,(0,0,0)⟩ h with h | h
   ·have h3:s=1∨s=2∨s=3:=by omega
    rcases h3 with rfl | rfl | rfl <;> simp [get3] at h
   ·exact .inl h
  ·exact .inr (.inl h)
  ·exact .inr (.inr h)
end SE
end
section
namespace SE
open Go.RowKit
set_option maxHeartbeats 0
theorem hello_1:sayR joinT 69 (helloM 1)=true:=by decide +kernel
theorem prove_1:sayR joinP 70 (proveM 1)=true:=by decide +kernel
theorem reject_1:sayR joinT 67 (rejectM 1)=true:=by decide +kernel
theorem beat_1:sayR joinT 111 (beatM 1)=true:=by decide +kernel
end SE
end
end Go.Proofs.YtdgejnakakjgfaaGreatDoor
