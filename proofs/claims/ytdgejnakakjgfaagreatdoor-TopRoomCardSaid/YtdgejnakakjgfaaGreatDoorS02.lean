/- How things stand: the runs, one by one. How things stand: what core.Site tells. How things stand, as a law is told it. What a law keeps besides: blocks of its own, flags, what the records tell. Regions that read: rules of an operation in a class of worlds. TopRoom: what is kept; rules. -/
import Derived.Test.YtdgejnakakjgfaaGreatDoorS01
import Derived.Test.YtdgejnakakjgfaaGreatDoorR33
import Derived.Test.YtdgejnakakjgfaaGreatDoorR02
import Derived.BigQuiet
import Derived.Tactics
set_option linter.unusedVariables false
set_option linter.unusedSimpArgs false
set_option maxRecDepth 100000
namespace Go.Proofs.YtdgejnakakjgfaaGreatDoor
section
namespace SE
set_option maxHeartbeats 0
theorem site_100:siteR 1 0 0=true:=by decide +kernel
theorem site_101:siteR 1 0 1=true:=by decide +kernel
theorem site_110:siteR 1 1 0=true:=by decide +kernel
theorem site_111:siteR 1 1 1=true:=by decide +kernel
end SE
end
section
namespace SE
open Go.RowKit Mc
set_option maxHeartbeats 0
variable {own0:Nat→Prop} {w0 w w':World} {E E':Env} {st:SE.St} {pc:Array Value} {X:Px}
theorem G.retab (g:G X own0 w0 E st w) (T:List (Nat×Int×Int)) (h:∀ id lo hi,lk T id=some (lo,hi)→∃ z,E id=some (.z z)∧lo≤z∧z≤hi):G X own0 w0 E { st with tab:=T } w :=
 ⟨g.size,g.os,g.tape,g.output,g.frame,g.heap,g.inj,h,fun id i hl=>by
  have:=g.sls id i hl
  cases i <;> exact this,g.dom,g.gl,g.facts⟩
theorem G.site (g:G (Xc pc) own0 w0 E coreSt w) {a b c:Int} (ha:E 231=some (.z a)) (hb:E 232=some (.z b)) (hc:E 233=some (.z c)):G (Xc pc) own0 w0 E (siteS a b c) w:=by
 refine g.retab _ fun id lo hi h=>?_
 unfold siteT at h
 rw [lk_upd] at h
 split at h
 ·rename_i e
  cases h
  exact ⟨c,by rw [e]; exact hc,Int.le_refl _,Int.le_refl _⟩
 rw [lk_upd] at h
 split at h
 ·rename_i e
  cases h
  exact ⟨b,by rw [e]; exact hb,Int.le_refl _,Int.le_refl _⟩
 rw [lk_upd] at h
 split at h
 ·rename_i e
  cases h
  exact ⟨a,by rw [e]; exact ha,Int.le_refl _,Int.le_refl _⟩
 exact g.tab _ _ _ h
theorem like_site (a b c:Int):Like (siteS a b c):=⟨rfl,fun id len h=>h⟩
theorem site_sm (hp:PolFit pc) {a b c:Int} (ha:a=0∨a=1) (hb:b=0∨b=1) (hc:c=0∨c=1):SmOk (Xc pc) 20 (siteM a b c):=by
 refine core_sm hp (kCore1_ok hp) ?_
 rcases ha with rfl | rfl <;> rcases hb with rfl | rfl <;> rcases hc with rfl | rfl
 ·exact site_000
 ·exact site_001
 ·exact site_010
 ·exact site_011
 ·exact site_100
 ·exact site_101
 ·exact site_110
 ·exact site_111
def reS (i:Nat):Rn:=.nm (bif Nat.beq i 5 then 2000005 else bif Nat.beq i 30 then 2000030 else i)
def fitS8 (l:List Nat):Bool :=
 let f:=fun a b c=>fit coreSt (siteO a b c l).2 zT ⟨0,renOf reS⟩&&noRo (siteO a b c l).2.heap
 f 0 0 0&&(f 0 0 1&&(f 0 1 0&&(f 0 1 1&&(f 1 0 0&&(f 1 0 1&&(f 1 1 0&&f 1 1 1))))))
theorem fit_site:allSeqs.all fitS8=true:=by decide +kernel
theorem fit_site1 {a b c:Int} (ha:a=0∨a=1) (hb:b=0∨b=1) (hc:c=0∨c=1) {l:List Nat} (hl:l∈allSeqs):fit coreSt (siteO a b c l).2 zT ⟨0,renOf reS⟩=true∧noRo (siteO a b c l).2.heap=true:=by
 have:=List.all_eq_true.1 fit_site l hl
 simp only [fitS8,Bool.and_eq_true] at this
 rcases ha with rfl | rfl <;> rcases hb with rfl | rfl <;> rcases hc with rfl | rfl
 ·exact this.1
 ·exact this.2.1
 ·exact this.2.2.1
 ·exact this.2.2.2.1
 ·exact this.2.2.2.2.1
 ·exact this.2.2.2.2.2.1
 ·exact this.2.2.2.2.2.2.1
 ·exact this.2.2.2.2.2.2.2
def isOn (l:List Nat) (s:Nat):Int:=if s∈l then 1 else 0
structure SiteR (pc:Array Value) (d:Num) (F:Foot) (w:World) (cs:Array Value) (q:List Nat) (h o:Int):Prop where
 size:cs.size=31
 one:∀ v∈cs.toList,v.oneCell'=true
 hold:cs[0]?=some (i64 h)
 offer:cs[2]?=some (i64 o)
 que:∃ B c,cs[19]?=some (.slice B q.length c)∧Reads w w.heap.size 1 B q.length (q.map fun s:Nat=>i64 (s:Int))∧q.length≤c∧∀ x,B=some x→F x.block
 on:∀ s:Nat,1≤s→s≤3→cs[20+s]?=some (.bool (decide (get3 d.on s≠0)))
 on0:∃ b,cs[20]?=some (.bool b)
 safe:cs[24]?=some (.bool true)
 role:∀ s:Nat,1≤s→s≤3→∃ r,cs[25+s]?=some (i64 r)∧(get3 d.on s=1→r=get3 d.ro s)
 mem:q∈allSeqs
 wt:∀ s:Nat,1≤s→s≤3→get3 d.wt s=isOn q s
 on01:∀ s:Int,1≤s→s≤3→get3 d.on s=0∨get3 d.on s=1
 wton:∀ s:Int,1≤s→s≤3→get3 d.wt s≤get3 d.on s
 srt:∀ k a b:Nat,q[k]?=some a→q[k+1]?=some b→rank pc a<rank pc b
 hq:∀ s:Int,1≤s→s≤3→h=s→get3 d.wt s=0
 oq:∀ s:Int,1≤s→s≤3→o=s→get3 d.on s=1∧h≠s
 orng:o≠0∧-1≤o∧o≤3
 room:d.on.1+d.on.2.1+d.on.2.2≤pI pc 49
 takes:∀ s:Int,1≤s→s≤3→get3 d.on s=0∨takes pc s (get3 d.ro s)=true
 qlen:(q.length:Int)≤pI pc 48
theorem SiteR.keep {pc:Array Value} {d:Num} {F:Foot} {w w':World} {cs:Array Value} {q:List Nat} {h o:Int} (r:SiteR pc d F w cs q h o) (hsz:w.heap.size≤w'.heap.size) (hs:∀ n,F n→w'.heap[n]?=w.heap[n]?):SiteR pc d F w' cs q h o:=by
 obtain ⟨B,c,h1,h2,h3,h4⟩:=r.que
 refine { r with que:=⟨B,c,h1,⟨h2.1,fun hl=>?_⟩,h3,h4⟩ }
 obtain ⟨ad,e1,e2,e3⟩:=h2.2 hl
 refine ⟨ad,e1,Nat.lt_of_lt_of_le e2 hsz,fun j u hu=>?_⟩
 have hb:w'.heap[(ad.add j).block]?=w.heap[(ad.add j).block]?:=by rw [block_of_add]; exact hs _ (h4 ad e1)
 exact (World.cell?_of_block hb).trans (e3 j u hu)
theorem SiteR.mono {pc:Array Value} {d:Num} {F F':Foot} {w:World} {cs:Array Value} {q:List Nat} {h o:Int} (r:SiteR pc d F w cs q h o) (hs:∀ n,F n→F' n):SiteR pc d F' w cs q h o:=by
 obtain ⟨B,c,h1,h2,h3,h4⟩:=r.que
 exact { r with que:=⟨B,c,h1,h2,h3,fun x hx=>hs _ (h4 x hx)⟩ }
theorem srtF_mem:∀ {l:List Nat} {k a b:Nat},l[k]?=some a→l[k+1]?=some b→(6,[N (Int.ofNat a),N (Int.ofNat b)])∈srtF l
 | [],k,a,b,h,_=>by simp at h
 | [x],k,a,b,_,h=>by simp at h
 | x::y::l,0,a,b,h1,h2=>by
  simp at h1 h2
  subst h1 h2
  simp only [srtF]
  exact List.mem_cons_self
 | x::y::l,k+1,a,b,h1,h2=>by
  simp only [srtF]
  refine List.mem_cons_of_mem _ (srtF_mem (k:=k) ?_ ?_)
  ·simpa using h1
  ·simpa using h2
theorem cellsN_get {E:Env}:∀ {l:List Nat} {vs:List Value},RL E (cellsN l) vs→vs=l.map fun s:Nat=>i64 (s:Int)
 | [],vs,h=>by simpa [cellsN,RL] using h
 | s::l,vs,h=>by
  simp only [cellsN,RL] at h
  obtain ⟨v,vs',rfl,h1,h2⟩:=h
  rw [cellsN_get h2]
  simp only [N,R,SIok] at h1
  obtain ⟨z,hz,rfl⟩:=h1
  have:z=Int.ofNat s:=by omega
  subst this
  rfl
theorem bit_on:allSeqs.all (fun q=>decide (bitN q 1=isOn q 1)&&(decide (bitN q 2=isOn q 2)&&(decide (bitN q 3=isOn q 3)&&decide ((q.length:Int)=isOn q 1+isOn q 2+isOn q 3))))=true:=by decide
theorem bit_on1 {q:List Nat} (hq:q∈allSeqs):bitN q 1=isOn q 1∧bitN q 2=isOn q 2∧bitN q 3=isOn q 3∧(q.length:Int)=isOn q 1+isOn q 2+isOn q 3:=by
 have:=List.all_eq_true.1 bit_on q hq
 simpa only [Bool.and_eq_true,decide_eq_true_eq] using this
theorem bit_cons (x:On) (l:List On) (s:Int):bitOf (x::l) s≤bitOf l s+(if s=x.src then 1 else 0):=by
 simp only [bitOf,List.map_cons,List.mem_cons]
 by_cases h:s=x.src
 ·rw [if_pos (.inl h),if_pos h]
  split <;> omega
 ·by_cases h2:s∈l.map On.src
  ·rw [if_pos (.inr h2),if_pos h2,if_neg h]
   omega
  ·rw [if_neg (fun q=>q.elim h h2),if_neg h2,if_neg h]
   omega
theorem bits_len:∀ l:List On,bitOf l 1+bitOf l 2+bitOf l 3≤(l.length:Int)
 | []=>by simp [bitOf]
 | x::l=>by
  have ih:=bits_len l
  have h1:=bit_cons x l 1
  have h2:=bit_cons x l 2
  have h3:=bit_cons x l 3
  have h4:(if (1:Int)=x.src then (1:Int) else 0)+(if (2:Int)=x.src then 1 else 0)+(if (3:Int)=x.src then 1 else 0)≤1:=by
   split <;> split <;> split <;> omega
  rw [List.length_cons]
  omega
theorem roQ_isCell (a:Int) (i:Nat):isCell (roQ a i)=true:=by
 unfold roQ
 cases decide (a=1) <;> rfl
theorem valQ_isCell (q:List Nat):isCell (valQ q)=true:=by cases q <;> rfl
theorem valQ_reads {own1:Nat→Prop} {w1:World} {a b c:Int} {q:List Nat} (g:G (Xc pc) own0 w0 E' (siteO a b c q).2 w') (k:G (Xc pc) own1 w1 E' (siteO a b c q).2 w') {v:Value} (hr:R E' (valQ q) v) :
  ∃ B cp,v=.slice B q.length cp∧Reads w' w'.heap.size 1 B q.length (q.map fun s:Nat=>i64 (s:Int))∧q.length≤cp∧∀ x,B=some x→own1 x.block∨(w1.heap.size≤x.block∧x.block<w'.heap.size):=by
 cases q with
 | nil =>
  simp only [valQ,R] at hr
  exact ⟨none,0,hr,Reads.none_,Nat.le_refl _,fun x hx=>by cases hx⟩
 | cons s l =>
  simp only [valQ,R] at hr
  obtain ⟨base,len,cap,e0,rfl⟩:=hr
  obtain ⟨n,cap',e1,e2⟩:=g.sls 2000051 (.row 2000050 (s::l).length) (by kernel_rfl)
  rw [e0] at e2
  cases e2
  rcases g.heap 2000050 (.row 3 1 2000051 (cellsN (s::l))) (by kernel_rfl) with ⟨hh,_⟩ | ⟨n',g1,g2,g3,vs,len',cap'',g4,g5,g6,g7,g8,g9⟩
  ·cases hh
  ·rw [e1] at g1
   cases g1
   rw [e0] at g5
   cases g5
   refine ⟨_,_,rfl,⟨by simp,fun _=>⟨_,rfl,g2,fun j u hu=>?_⟩⟩,g8,fun x hx=>?_⟩
   rotate_left
   ·cases hx
    obtain ⟨q1,q2⟩:=k.hown (id:=2000050) (blk:=.row 3 1 2000051 (cellsN (s::l))) (by kernel_rfl) e1
    rcases q2 with q2 | q2 | q2
    ·cases q2
    ·exact .inl q2
    ·exact .inr ⟨q2,q1⟩
   rw [add_none,Nat.zero_add,cell_at g4]
   have e:=cellsN_get g9
   rw [← e] at hu
   rw [List.getElem?_take] at hu
   split at hu
   ·simpa using hu
   ·cases hu
theorem i64_inj {a b:Int} (h:i64 a=i64 b):a=b:=by simpa [i64] using h
theorem core_site (hp:PolFit pc) {wL:World} {Bc:Nat} {d:Num} {O:Foot} (hK:KC pc wL Bc d O w):Calls Tryz.prog 20 #[.pointer (some ⟨Bc,0,none⟩)] w fun e w' =>
  ∃ cs q h o,e=.returned (.agg cs)∧KC pc wL Bc d (grow O w w') w'∧Frm O w w'∧SiteR pc d (grow O w w') w' cs q h o:=by
 have hrng:=hK.rng
 obtain ⟨⟨E,g,hd,h1,hs⟩,hlt⟩:=hK
 have on1:=hrng.1 1 (by decide) (by decide)
 have on2:=hrng.1 2 (by decide) (by decide)
 have on3:=hrng.1 3 (by decide) (by decide)
 simp only [get3] at on1 on2 on3
 simp at on1 on2 on3
 have gs:=g.site (a:=d.on.1) (b:=d.on.2.1) (c:=d.on.2.2) hd.on.1 hd.on.2.1 hd.on.2.2
 refine ((site_sm hp on1 on2 on3).use gs (RL_cons.2 ⟨ptr_R h1,by simp [RL]⟩)).mono fun e w' he=>?_
 obtain ⟨o,ho,E',x,hle,rfl,hrx,g1,g2⟩:=he
 obtain ⟨q,hq,rfl⟩:=List.mem_map.1 ho
 obtain ⟨hfit,hnr⟩:=fit_site1 on1 on2 on3 hq
 obtain ⟨hK,hF⟩:=core_after (d':=d) (ren:=renOf reS) hp (like_site _ _ _) gs g1 g2 hle hfit (noRo_ok hnr) h1 hs hlt (env_renOf (by decide) rfl) (fun id a b=>by
   have:id=21∨id=22∨id=23∨id=24:=by omega
   rcases this with rfl | rfl | rfl | rfl <;> exact env_renOf (by decide) rfl)
   ⟨⟨(env_renOf (by decide) rfl).trans (hle _ _ hd.on.1),(env_renOf (by decide) rfl).trans (hle _ _ hd.on.2.1),(env_renOf (by decide) rfl).trans (hle _ _ hd.on.2.2)⟩,
    ⟨(env_renOf (by decide) rfl).trans (hle _ _ hd.ro.1),(env_renOf (by decide) rfl).trans (hle _ _ hd.ro.2.1),(env_renOf (by decide) rfl).trans (hle _ _ hd.ro.2.2)⟩,
    ⟨(env_renOf (by decide) rfl).trans (hle _ _ hd.wt.1),(env_renOf (by decide) rfl).trans (hle _ _ hd.wt.2.1),(env_renOf (by decide) rfl).trans (hle _ _ hd.wt.2.2)⟩⟩
 simp only [siteO,R] at hrx
 obtain ⟨cs,rfl,hl⟩:=hrx
 obtain ⟨b1,b2,b3,b4⟩:=bit_on1 hq
 have z200:=g1.tab 200 0 4 (by kernel_rfl)
 have z201:=g1.tab 201 (-1) 3 (by kernel_rfl)
 obtain ⟨h,e200,r200⟩:=z200
 obtain ⟨o,e201,r201⟩:=z201
 obtain ⟨y1,e237,r237⟩:=g1.tab 237 (bitN q 1) (bitN q 1) (by kernel_rfl)
 obtain ⟨y2,e238,r238⟩:=g1.tab 238 (bitN q 2) (bitN q 2) (by kernel_rfl)
 obtain ⟨y3,e239,r239⟩:=g1.tab 239 (bitN q 3) (bitN q 3) (by kernel_rfl)
 have k231:=hle _ _ hd.on.1
 have k232:=hle _ _ hd.on.2.1
 have k233:=hle _ _ hd.on.2.2
 have k234:=hle _ _ hd.ro.1
 have k235:=hle _ _ hd.ro.2.1
 have k236:=hle _ _ hd.ro.2.2
 have k237:=hle _ _ hd.wt.1
 have k238:=hle _ _ hd.wt.2.1
 have k239:=hle _ _ hd.wt.2.2
 simp only [Nat.zero_add,Nat.reduceAdd] at k231 k232 k233 k234 k235 k236 k237 k238 k239
 rw [k237] at e237
 rw [k238] at e238
 rw [k239] at e239
 cases e237
 cases e238
 cases e239
 have fmem:∀ x,hasF x coreFacts=true→x∈(siteO d.on.1 d.on.2.1 d.on.2.2 q).2.facts:=fun x hx=>by
  show x∈srtF q++coreFacts
  exact List.mem_append_right _ (hasF_mem hx)
 have key:∀ {i:Nat} {x:SV},nth ([A 200,I64,A 201,I64]++rep 15 I64++[valQ q]++[.bool,.cmp .ne 231 0,.cmp .ne 232 0,.cmp .ne 233 0,.tt]++[I64,roQ d.on.1 234,roQ d.on.2.1 235,roQ d.on.2.2 236,I64]++[.bool]) i=some x→∃ v,cs[i]?=some v∧R E' x v:=fun {i x} hx=>by
  obtain ⟨v,q1,q2⟩:=RL_nth hl hx
  exact ⟨v,by simpa using q1,q2⟩
 obtain ⟨v0,c0,r0⟩:=key (i:=0) (x:=A 200) rfl
 obtain ⟨v2,c2,r2⟩:=key (i:=2) (x:=A 201) rfl
 obtain ⟨v19,c19,r19⟩:=key (i:=19) (x:=valQ q) rfl
 obtain ⟨v20,c20,r20⟩:=key (i:=20) (x:=.bool) rfl
 obtain ⟨v21,c21,r21⟩:=key (i:=21) (x:=.cmp .ne 231 0) rfl
 obtain ⟨v22,c22,r22⟩:=key (i:=22) (x:=.cmp .ne 232 0) rfl
 obtain ⟨v23,c23,r23⟩:=key (i:=23) (x:=.cmp .ne 233 0) rfl
 obtain ⟨v24,c24,r24⟩:=key (i:=24) (x:=.tt) rfl
 obtain ⟨v26,c26,r26⟩:=key (i:=26) (x:=roQ d.on.1 234) rfl
 obtain ⟨v27,c27,r27⟩:=key (i:=27) (x:=roQ d.on.2.1 235) rfl
 obtain ⟨v28,c28,r28⟩:=key (i:=28) (x:=roQ d.on.2.2 236) rfl
 rw [rA e200 r0] at c0
 rw [rA e201 r2] at c2
 simp only [R] at r20 r24
 obtain ⟨bb,rfl⟩:=r20
 subst r24
 have cmpv:∀ {i:Nat} {z:Int} {v:Value},E' i=some (.z z)→R E' (.cmp .ne i 0) v→v=.bool (decide (z≠0)):=fun hE hr=>by
  simp only [R,cmpZ] at hr
  obtain ⟨z',h1,h2⟩:=hr
  rw [hE] at h1
  cases h1
  exact h2
 rw [cmpv k231 r21] at c21
 rw [cmpv k232 r22] at c22
 rw [cmpv k233 r23] at c23
 have rov:∀ {a:Int} {i:Nat} {z:Int} {v:Value},E' i=some (.z z)→R E' (roQ a i) v→∃ r,v=i64 r∧(a=1→r=z):=fun {a i z v} hE hr=>by
  unfold roQ at hr
  by_cases ha:a=1
  ·simp only [ha,decide_true,cond_true] at hr
   exact ⟨z,rA hE hr,fun _=>rfl⟩
  ·simp only [ha,decide_false,cond_false,I64,R,SIok] at hr
   obtain ⟨r,_,rfl⟩:=hr
   exact ⟨r,rfl,fun h=>absurd h ha⟩
 obtain ⟨w8,f8,h8,x81,x82,x83,rfl,u81,u82,u83⟩:=g1.facts _ (fmem (8,A 200::bits3) (by decide +kernel))
 obtain ⟨w9,f9,o9,h9,x91,x92,x93,rfl,u90,u91,u92,u93⟩:=g1.facts _ (fmem (9,A 201::A 200::flags3) (by decide +kernel))
 obtain ⟨w10,f10,xa,xb,xc,xm,rfl,u10⟩:=g1.facts _ (fmem (10,flags3++[A 149]) (by decide +kernel))
 obtain ⟨w31,f31,p1,p2,p3,rfl,u31⟩:=g1.facts _ (fmem (3,[A 231,N 1,A 234]) (by decide +kernel))
 obtain ⟨w32,f32,p4,p5,p6,rfl,u32⟩:=g1.facts _ (fmem (3,[A 232,N 2,A 235]) (by decide +kernel))
 obtain ⟨w33,f33,p7,p8,p9,rfl,u33⟩:=g1.facts _ (fmem (3,[A 233,N 3,A 236]) (by decide +kernel))
 obtain ⟨w71,f71,s1,s2,rfl,u71⟩:=g1.facts _ (fmem (7,[A 237,A 231]) (by decide +kernel))
 obtain ⟨w72,f72,s3,s4,rfl,u72⟩:=g1.facts _ (fmem (7,[A 238,A 232]) (by decide +kernel))
 obtain ⟨w73,f73,s5,s6,rfl,u73⟩:=g1.facts _ (fmem (7,[A 239,A 233]) (by decide +kernel))
 obtain ⟨wp,fp,up⟩:=g1.facts _ (fmem (2,polCells) (by decide +kernel))
 simp only [UFc] at up
 subst up
 have pol:∀ i,i<56→9≤i→nth polCells i=some (A (100+i))→∃ z,E' (100+i)=some (.z z)∧z=pI pc i:=fun i hi hk hn=>by
  obtain ⟨v,q1,q2⟩:=RL_nth fp hn
  have:=hp.ok.2 i hi (.inr hk)
  rw [show pc.toList[i]?=pc[i]? by simp,this] at q1
  cases q1
  exact ⟨_,rA' q2,rfl⟩
 obtain ⟨z149,e149,rfl⟩:=pol 49 (by decide) (by decide) (by kernel_rfl)
 obtain ⟨z148,e148,rfl⟩:=pol 48 (by decide) (by decide) (by kernel_rfl)
 have eqA:∀ {i:Nat} {x y:Int},E' i=some (.z x)→R E' (A i) (i64 y)→y=x:=fun hE hr=>i64_inj (rA hE hr)
 simp only [bits3,flags3,List.cons_append,List.nil_append,RL_cons] at f8 f9 f10 f31 f32 f33 f71 f72 f73
 have a80:=eqA e200 f8.1
 have a81:=eqA k237 f8.2.1
 have a82:=eqA k238 f8.2.2.1
 have a83:=eqA k239 f8.2.2.2.1
 have a90:=eqA e201 f9.1
 have a9h:=eqA e200 f9.2.1
 have a91:=eqA k231 f9.2.2.1
 have a92:=eqA k232 f9.2.2.2.1
 have a93:=eqA k233 f9.2.2.2.2.1
 have aa:=eqA k231 f10.1
 have ab:=eqA k232 f10.2.1
 have ac:=eqA k233 f10.2.2.1
 have am:=eqA e149 f10.2.2.2.1
 have t1:=eqA k231 f31.1
 have t2:=eqA k234 f31.2.2.1
 have t3:=rN f31.2.1
 have t4:=eqA k232 f32.1
 have t5:=eqA k235 f32.2.2.1
 have t6:=rN f32.2.1
 have t7:=eqA k233 f33.1
 have t8:=eqA k236 f33.2.2.1
 have t9:=rN f33.2.1
 have l1:=eqA k237 f71.1
 have l2:=eqA k231 f71.2.1
 have l3:=eqA k238 f72.1
 have l4:=eqA k232 f72.2.1
 have l5:=eqA k239 f73.1
 have l6:=eqA k233 f73.2.1
 subst a80 a81 a82 a83 a90 aa ab ac am t1 t2 t3 t4 t5 t6 t7 t8 t9
 have hsz:cs.size=31:=by
  have:=RL_length hl
  rw [Array.length_toList] at this
  exact this
 have hone:∀ v∈cs.toList,v.oneCell'=true:=allCell_one hl (by
  have e1:=roQ_isCell d.on.1 234
  have e2:=roQ_isCell d.on.2.1 235
  have e3:=roQ_isCell d.on.2.2 236
  have e4:=valQ_isCell q
  simp only [List.cons_append,List.nil_append,rep,allCell,e1,e2,e3,e4,Bool.and_true,Bool.true_and]
  rfl)
 refine ⟨cs,q,_,_,rfl,hK,hF,⟨hsz,hone,c0,c2,?_,?_,⟨_,c20⟩,c24,?_,hq,?_,?_,?_,?_,?_,?_,?_,?_,?_,?_⟩⟩
 ·obtain ⟨B,cp,rfl,q1,q2,q3⟩:=valQ_reads g1 g2 r19
  exact ⟨B,cp,c19,q1,q2,fun x hx=>(q3 x hx).imp (fun h=>hs _ (ownB_sees' (like_site _ _ _) h)) id⟩
 ·intro s s1 s2
  have:s=1∨s=2∨s=3:=by omega
  rcases this with rfl | rfl | rfl
  ·exact c21
  ·exact c22
  ·exact c23
 ·intro s s1 s2
  have:s=1∨s=2∨s=3:=by omega
  rcases this with rfl | rfl | rfl
  ·obtain ⟨r,rfl,q2⟩:=rov k234 r26
   exact ⟨r,c26,q2⟩
  ·obtain ⟨r,rfl,q2⟩:=rov k235 r27
   exact ⟨r,c27,q2⟩
  ·obtain ⟨r,rfl,q2⟩:=rov k236 r28
   exact ⟨r,c28,q2⟩
 ·intro s s1 s2
  have:s=1∨s=2∨s=3:=by omega
  rcases this with rfl | rfl | rfl <;> simp only [get3] <;> simp <;> omega
 ·exact hrng.1
 ·intro s s1 s2
  exact cases3 (P:=fun s=>get3 d.wt s≤get3 d.on s) s1 s2 (by simp [get3]; omega) (by simp [get3]; omega) (by simp [get3]; omega)
 ·intro k a b ha hb
  obtain ⟨vs,f,a',b',rfl,u⟩:=g1.facts _ (show (6,[N (Int.ofNat a),N (Int.ofNat b)])∈(siteO d.on.1 d.on.2.1 d.on.2.2 q).2.facts from List.mem_append_left _ (srtF_mem ha hb))
  simp only [RL_cons] at f
  have e1:=rN f.1
  have e2:=rN f.2.1
  subst e1 e2
  exact u
 ·intro s s1 s2 hs
  have hs':=hs
  exact cases3 (P:=fun s=>h8=s→get3 d.wt s=0) s1 s2 (by simp [get3]; omega) (by simp [get3]; omega) (by simp [get3]; omega) hs
 ·intro s s1 s2 hs
  exact cases3 (P:=fun s=>o9=s→get3 d.on s=1∧h8≠s) s1 s2 (by simp [get3]; omega) (by simp [get3]; omega) (by simp [get3]; omega) hs
 ·exact ⟨u90,r201⟩
 ·exact u10
 ·intro s s1 s2
  exact cases3 (P:=fun s=>get3 d.on s=0∨takes pc s (get3 d.ro s)=true) s1 s2 (by simpa [get3] using u31) (by simpa [get3] using u32) (by simpa [get3] using u33)
 ·obtain ⟨_,base,ln,cap,vs,e30,f30,hb30,ow⟩:=g1.sls 2000030 (.own 2000005 1 [U 0 3,A 237,A 238,A 239,A 148]) (by
   show lk (slsQ q++_) _=_
   cases q <;> kernel_rfl)
  obtain ⟨ee,sz,rest,q1,rfl,q2⟩:=ow
  have hline:∃ us,LineOk pc rest us:=by
   rcases q2 with ⟨_,_,_,q⟩ | ⟨_,us,_,_,_,_,q⟩
   ·exact ⟨_,q⟩
   ·exact ⟨_,q⟩
  obtain ⟨us,l,m,_,_,_,hm,rfl⟩:=hline
  simp only [RL_cons] at f30
  have i1:=eqA k237 f30.2.1
  have i2:=eqA k238 f30.2.2.1
  have i3:=eqA k239 f30.2.2.2.1
  have i4:=eqA e148 f30.2.2.2.2.1
  have hb:=bits_len l
  omega
end SE
end
section
namespace SE
open Go.RowKit Mc
attribute [local go_sem] Oper.semAt_some
set_option maxHeartbeats 4000000
variable {w w' w00:World} {pc:Array Value}
theorem MInv.core {wL:World} {Bc M:Nat} {d:Num} {MO:Foot} (h:MInv (KC pc wL Bc) Bc M d MO w):∃ O,KC pc wL Bc d O w∧(∀ n,O n→MO n)∧¬ O M∧MO M∧w.cell? ⟨M,0,none⟩=some (.pointer (some ⟨Bc,0,none⟩)) ∧
  ∀ w' d',KC pc wL Bc d' (grow O w w') w'→Frm O w w'→MInv (KC pc wL Bc) Bc M d' (grow MO w w') w':=by
 obtain ⟨⟨O,g,h1,h2,h3,h4,h5,h6,h7,h8⟩,lt⟩:=h
 have hM:=lt M h7
 refine ⟨O,h1,h6,h3,h7,h2,fun w' d' hK hF=>?_⟩
 have hsf:∀ l,1≤l→l≤3→∀ n,SFoot w (g l) n→w'.heap[n]?=w.heap[n]?:=fun l a b n hn=>by
  obtain ⟨n0,rest,hst,_⟩:=h5.str l a b
  exact hF.same n (sfoot_lt hst hn) (h5.far l a b n hn).1
 refine ⟨⟨grow O w w',g,hK,(hF.cell (a:=⟨M,0,none⟩) hM h3).trans h2,?_,fun l a b=>(hF.cell (a:=⟨M,l+1,none⟩) hM h3).trans (h4 l a b),h5.keep hF.size hsf (fun n hn=>?_) (fun n hn=>.inl hn),?_,.inl h7,fun l a b n hn=>.inl (h8 l a b n (sfoot_same (hsf l a b _ (.inl rfl)) hn))⟩,?_⟩
 ·rintro (h | h)
  ·exact h3 h
  ·omega
 ·rcases hn with h | h
  ·exact .inl h
  ·exact .inr h.1
 ·rintro n (h | h)
  ·exact .inl (h6 n h)
  ·exact .inr h
 ·rintro n (h | h)
  ·exact Nat.lt_of_lt_of_le (lt n h) hF.size
  ·exact h.2
theorem MInv.wider {wL:World} {Bc M:Nat} {d:Num} {MO MO':Foot} (h:MInv (KC pc wL Bc) Bc M d MO w) (hs:∀ n,MO n→MO' n) (hlt:∀ n,MO' n→n<w.heap.size):MInv (KC pc wL Bc) Bc M d MO' w:=by
 obtain ⟨⟨O,g,h1,h2,h3,h4,h5,h6,h7,h8⟩,lt⟩:=h
 exact ⟨⟨O,g,h1,h2,h3,h4,h5,fun n hn=>hs n (h6 n hn),hs _ h7,fun l a b n hn=>hs n (h8 l a b n hn)⟩,hlt⟩
theorem site_un:∃ d,Tryz.prog.underlying 55=some d∧d.isRow=true:=by
 have h:(Tryz.prog.underlying 55).map (·.isRow)=some true:=by kernel_rfl
 cases hd:Tryz.prog.underlying 55 with
 | none=>rw [hd] at h; cases h
 | some d=>rw [hd] at h; exact ⟨d,rfl,by simpa using h⟩
theorem site_done {w2 w3:World} {b:Nat} {zs cs:Array Value} (hz:zs.size=31) (hcs:cs.size=31) (hw3:Wr w2 w3 b (spl zs.toList 0 cs.toList).toArray 55):(loadVar 55 ⟨b,0,none⟩).run Tryz.prog w3=.ok (.agg cs) w3:=by
 obtain ⟨d55,hd55,hr55⟩:=site_un
 have c3:w3.heap[b]?=some (.cells cs 55 (0,0)):=by
  have:=hw3.cell
  rwa [spl_all (by simp [hz,hcs])] at this
 have hload:=run_loadVar_mid (P:=Tryz.prog) w3 b 0 55 cs.toList d55 (fun j u hu=>by rw [SE.cell_at c3,Nat.zero_add]; simpa using hu) hd55 hr55 (by rw [Array.length_toList,hcs]; exact site_info)
 rwa [Array.toArray_toList] at hload
theorem site_dead {M:Nat} (hD:Dead w M):Calls Tryz.prog 11 #[.pointer (some ⟨M,0,none⟩)] w fun e w'=>e=.returned (.agg siteV.toArray)∧Below w.heap.size w w':=by
 obtain ⟨z,hz,hh⟩:=hD
 have hM:M<w.heap.size:=(Array.getElem?_eq_some_iff.1 hh).1
 have f0:∀ o,(w.alloc o).cell? ⟨M,0,none⟩=some (.pointer none):=fun o=>by rw [SE.cell_at ((alloc_same _ _ _ hM).trans hh)]; rfl
 have hone:∀ u∈siteV.toArray.toList,u.oneCell'=true:=by
  intro u hu
  have hall:siteV.all (fun u=>u.oneCell')=true:=by decide
  exact List.all_eq_true.1 hall u hu
 refine (callsIn_wide (n:=3)).1 (callsIn_of_wp Tryz.func11 rfl trivial ?_ rfl)
 simp only [Tryz.ntmps11,List.size_toArray,List.length_cons,List.length_nil,Nat.reduceAdd,Nat.reduceSub,Array.replicate_succ,Array.replicate_zero,List.push_toArray,List.append_toArray,List.nil_append,List.cons_append]
 gi_wp2_with (first
  | (refine in_store (b:=w.heap.size) (off:=0) (xs:=siteV.toArray) (v:=.agg siteV.toArray) rfl rfl rfl rfl rfl hone site_info (heap_alloc_new w _) (by decide) fun w2 hw2=>?_; simp only [Act.put,List.setIfInBounds_toArray,List.set_cons_succ,List.set_cons_zero])
  | fail)
 refine ⟨rfl,_,results_cell rfl rfl (site_done rfl rfl hw2),rfl,hw2.os,hw2.tape,hw2.output,by rw [hw2.size,alloc_size]; omega,fun n hn=>?_⟩
 rw [hw2.same n (by omega),alloc_same _ _ _ hn]
theorem site_alive (hp:PolFit pc) {wL:World} {Bc M:Nat} {d:Num} {MO:Foot} (h:MInv (KC pc wL Bc) Bc M d MO w):Calls Tryz.prog 11 #[.pointer (some ⟨M,0,none⟩)] w fun e w' =>
  ∃ cs q h o,e=.returned (.agg cs)∧MInv (KC pc wL Bc) Bc M d (grow MO w w') w'∧Frm MO w w'∧SiteR pc d (grow MO w w') w' cs q h o:=by
 have hlt:=h.lt
 have h':∀ o,MInv (KC pc wL Bc) Bc M d MO (w.alloc o):=fun o=>MInv.keep (fun d O w w' h hS=>h.keep hS) h ⟨by rw [alloc_size]; omega,fun n hn=>alloc_same _ _ _ (hlt n hn),rfl,rfl,rfl⟩
 obtain ⟨O,hK,hOm,hOM,hMm,hc,_⟩:=MInv.core h
 have hM:=hlt M hMm
 have f0:∀ o,(w.alloc o).cell? ⟨M,0,none⟩=some (.pointer (some ⟨Bc,0,none⟩)):=fun o=>by rw [World.cell?_of_block (a:=⟨M,0,none⟩) (alloc_same _ _ _ hM)]; exact hc
 refine (callsIn_wide (n:=3)).1 (callsIn_of_wp Tryz.func11 rfl trivial ?_ rfl)
 simp only [Tryz.ntmps11,List.size_toArray,List.length_cons,List.length_nil,Nat.reduceAdd,Nat.reduceSub,Array.replicate_succ,Array.replicate_zero,List.push_toArray,List.append_toArray,List.nil_append,List.cons_append]
 gi_wp2
 rename_i K1 hK1
 refine ⟨trivial,?_⟩
 generalize hwA:World.alloc w _=wA
 have hA:MInv (KC pc wL Bc) Bc M d MO wA:=by rw [← hwA]; exact h' _
 have zA:wA.heap.size=w.heap.size+1:=by rw [← hwA,alloc_size]
 have kA:∀ n,n<w.heap.size→wA.heap[n]?=w.heap[n]?:=fun n hn=>by rw [← hwA]; exact alloc_same _ _ _ hn
 have oA:wA.os=w.os∧wA.tape=w.tape∧wA.output=w.output:=by rw [← hwA]; exact ⟨rfl,rfl,rfl⟩
 have hnA:∃ zs:Array Value,wA.heap[w.heap.size]?=some (.cells zs 55 (0,0))∧zs.size=31:=⟨_,by rw [← hwA]; exact heap_alloc_new w _,rfl⟩
 obtain ⟨zs,hzA,hzs⟩:=hnA
 obtain ⟨O2,hK2,hOm2,hOM2,_,_,hback⟩:=MInv.core hA
 refine (callsIn_wide.2 (core_site hp hK2)).mono ?_
 rintro e w1 ⟨cs,q,hh,oo,rfl,hK3,hF1,hR⟩
 have z1:=hF1.size
 have hnO:¬ O2 w.heap.size:=fun h=>by have:=hlt _ (hOm2 _ h); omega
 have hI1:=hback w1 d hK3 hF1
 have c1:w1.heap[w.heap.size]?=some (.cells zs 55 (0,0)):=(hF1.same _ (by omega) hnO).trans hzA
 refine hK1 _ _ ?_
 gi_wp2_with (first
  | (refine in_store (b:=w.heap.size) (off:=0) (xs:=cs) (v:=.agg cs) rfl rfl rfl rfl rfl hR.one (by rw [hR.size]; exact site_info) c1 (by rw [hR.size,hzs]; omega) fun w2 hw2=>?_; simp only [Act.put,List.setIfInBounds_toArray,List.set_cons_succ,List.set_cons_zero])
  | fail)
 rename_i w2 hw2
 have z2:=hw2.size
 refine ⟨rfl,_,results_cell rfl rfl (site_done hzs hR.size hw2),cs,q,hh,oo,rfl,?_,?_,?_⟩
 ·have hg:∀ n,grow MO wA w1 n→n≠w.heap.size:=fun n hn e=>by
   subst e
   rcases hn with hn | hn
   ·have:=hlt _ hn; omega
   ·omega
  have:=MInv.keep (w':=w2) (fun d O w w' h hS=>h.keep hS) hI1 ⟨by omega,fun n hn=>hw2.same n (hg n hn),hw2.os,hw2.tape,hw2.output⟩
  exact MInv.wider this (fun n hn=>by
   rcases hn with hn | hn
   ·exact .inl hn
   ·exact .inr ⟨by omega,by omega⟩) fun n hn=>by
   rcases hn with hn | hn
   ·have:=hlt _ hn; omega
   ·omega
 ·refine ⟨by omega,fun n hn hno=>?_,hw2.os.trans (hF1.os.trans oA.1),hw2.tape.trans (hF1.tape.trans oA.2.1),hw2.output.trans (hF1.output.trans oA.2.2)⟩
  rw [hw2.same n (by omega),hF1.same n (by omega) (fun h=>hno (hOm2 n h)),kA n hn]
 ·refine (hR.keep (by omega) fun n hn=>hw2.same n (fun e=>?_)).mono fun n hn=>?_
  ·subst e
   rcases hn with hn | hn
   ·exact hnO hn
   ·omega
  ·rcases hn with hn | hn
   ·exact .inl (hOm2 n hn)
   ·exact .inr ⟨by omega,by omega⟩
theorem takes_same {pc':Array Value} (hs:∀ i,i<56→isK i=true→pc'[i]?=pc[i]?) {s:Int} (a:1≤s) (b:s≤3) (x:Int):takes pc' s x=takes pc s x:=by
 have e:∀ i,i<56→isK i=true→pI pc' i=pI pc i:=fun i hi hk=>by simp only [pI,hs i hi hk]
 have:s=1∨s=2∨s=3:=by omega
 rcases this with rfl | rfl | rfl <;> simp only [takes]
 ·rw [show (9+(1:Int).toNat)=10 from rfl,e 10 (by omega) rfl]
 ·rw [show (9+(2:Int).toNat)=11 from rfl,e 11 (by omega) rfl]
 ·rw [show (9+(3:Int).toNat)=12 from rfl,e 12 (by omega) rfl]
theorem SiteR.pol {pc':Array Value} {d:Num} {F:Foot} {cs:Array Value} {q:List Nat} {h o:Int} (r:SiteR pc' d F w cs q h o) (hs:∀ i,i<56→isK i=true→pc'[i]?=pc[i]?):SiteR pc d F w cs q h o:=by
 have e:∀ i,i<56→isK i=true→pI pc' i=pI pc i:=fun i hi hk=>by simp only [pI,hs i hi hk]
 have hr:∀ s,rank pc' s=rank pc s:=fun s=>by simp only [rank,e 0 (by omega) rfl,e 1 (by omega) rfl,e 2 (by omega) rfl,e 3 (by omega) rfl,e 4 (by omega) rfl]
 have ht:=fun s a b x=>takes_same hs (s:=s) a b x
 exact { r with
  srt:=fun k a b ha hb=>by rw [← hr,← hr]; exact r.srt k a b ha hb
  room:=by rw [← e 49 (by omega) rfl]; exact r.room
  takes:=fun s a b=>by rw [← ht s a b]; exact r.takes s a b
  qlen:=by rw [← e 48 (by omega) rfl]; exact r.qlen }
def SiteD (pc:Array Value) (F:Foot) (w:World) (cs:Array Value):Option Num→Prop
 | none=>cs=siteV.toArray
 | some d=>∃ q h o,SiteR pc d F w cs q h o
theorem machD_site (hw00:GlW w00) (hbl:Below w00.heap.size w00 w) {M:Nat} {MO:Foot} {od:Option Num} (hI:MachD pc w00 M MO w od) :
  Calls Tryz.prog 11 #[.pointer (some ⟨M,0,none⟩)] w fun e w'=>∃ cs,e=.returned (.agg cs)∧MachD pc w00 M (grow MO w w') w' od∧Frm MO w w'∧Below w00.heap.size w00 w'∧SiteD pc (grow MO w w') w' cs od:=by
 cases od with
 | none =>
  have hI':=hI
  obtain ⟨hD,hMM,hlt,hw⟩:=hI
  have hM:=hlt M hMM
  refine (site_dead hD).mono fun e w' he=>?_
  obtain ⟨rfl,hbe⟩:=he
  have hF:Frm MO w w':=⟨hbe.size,fun n hn _=>hbe.block n hn,hbe.os,hbe.tape,hbe.output⟩
  have hN:MachD pc w00 M (grow MO w w') w' none:=by
   refine ⟨hD.keep (hbe.block M hM.1),.inl hMM,?_,hw.belowW hbe⟩
   rintro n (h | h)
   ·exact ⟨Nat.lt_of_lt_of_le (hlt n h).1 hbe.size,(hlt n h).2⟩
   ·exact ⟨h.2,by have:=hbl.size; omega⟩
  exact ⟨_,rfl,hN,hF,frm_below hbl hF hI' ⟨_,.inl hN⟩,rfl⟩
 | some d =>
  have hI':=hI
  obtain ⟨pc',Bc,hp',hsame,hI⟩:=hI
  refine (site_alive hp' hI).mono fun e w' he=>?_
  obtain ⟨cs,q,h,o,rfl,h1,h2,h3⟩:=he
  have hN:MachD pc w00 M (grow MO w w') w' (some d):=⟨pc',Bc,hp',hsame,h1⟩
  exact ⟨cs,rfl,hN,h2,frm_below hbl h2 hI' ⟨_,.inr ⟨_,hN,(fun h=>by cases h),(fun h=>by cases h)⟩⟩,q,h,o,h3.pol hsame⟩
end SE
end
section
namespace SE
open Go.RowKit Mc In
variable {w w' wr wr':World} {pc:Array Value} {M r base hi:Nat} {v:Value} {es:List Ev} {MO MO':Foot} {od:Option Num}
structure OwnB (w wr:World) (r base hi:Nat) (MO:Foot) (b:Nat) (cs:Array Value) (t:Nat):Prop where
 hp:wr.heap[b]?=some (.cells cs t (0,0))
 lo:w.heap.size≤b
 nr:b≠r
 nb:b<base∨hi≤b
 nm:¬ MO b
variable {b b' t t':Nat} {cs cs' zs:Array Value}
theorem OwnB.lt (h:OwnB w wr r base hi MO b cs t):b<wr.heap.size:=(Array.getElem?_eq_some_iff.1 h.hp).1
theorem OwnB.more (h:OwnB w wr r base hi MO b cs t) (hb:Below wr.heap.size wr wr'):OwnB w wr' r base hi MO b cs t:=⟨(hb.block b h.lt).trans h.hp,h.lo,h.nr,h.nb,h.nm⟩
theorem OwnB.other (h:OwnB w wr r base hi MO b cs t) (hW:Wr wr wr' b' cs' t') (hne:b≠b'):OwnB w wr' r base hi MO b cs t:=⟨(hW.same b hne).trans h.hp,h.lo,h.nr,h.nb,h.nm⟩
theorem OwnB.set (h:OwnB w wr r base hi MO b cs t) (hW:Wr wr wr' b cs' t'):OwnB w wr' r base hi MO b cs' t':=⟨hW.cell,h.lo,h.nr,h.nb,h.nm⟩
theorem OwnB.cell (h:OwnB w wr r base hi MO b cs t) {i:Nat} {u:Value} (hi:cs[i]?=some u):wr.cell? ⟨b,i,none⟩=some u:=by
 rw [SE.cell_at h.hp]
 exact hi
theorem LawL.new (h:LawL pc w M r base hi v es MO od wr):OwnB w (wr.alloc (.cells cs t)) r base hi MO wr.heap.size cs t :=
 ⟨heap_alloc_new wr _,h.bel.size,fun e=>by have:=h.rlo.2.1; omega,.inr h.top,fun c=>by have:=h.lt _ c; omega⟩
theorem LawL.setB (hw:GlW w) (h:LawL pc w M r base hi v es MO od wr) (hb:OwnB w wr r base hi MO b cs t) (hW:Wr wr wr' b cs' t'):LawL pc w M r base hi v es MO od wr':=h.set hw hW hb.lo hb.nr hb.nb hb.nm
theorem LawL.box (hw:GlW w) (h:LawL pc w M r base hi v es MO od wr) (hW:Wr (wr.alloc (.cells zs t)) wr' wr.heap.size (spl zs.toList 0 cs.toList).toArray t) (hz:zs.size=cs.size) :
  LawL pc w M r base hi v es MO od wr'∧OwnB w wr' r base hi MO wr.heap.size cs t∧Below wr.heap.size wr wr':=by
 have e:(spl zs.toList 0 cs.toList).toArray=cs:=by rw [spl_all (by simp [hz])]
 rw [e] at hW
 have hz2:wr'.heap.size=wr.heap.size+1:=by rw [hW.size,alloc_size]
 have hB:Below wr.heap.size wr wr':=⟨hW.os,hW.tape,hW.output,by omega,fun n hn=>(hW.same n (by omega)).trans (alloc_same wr _ n hn)⟩
 exact ⟨h.more hw hB,(h.new (cs:=zs) (t:=t)).set hW,hB⟩
def bv5 (f:Nat→Bool):Array Value:=#[.bool (f 0),.bool (f 1),.bool (f 2),.bool (f 3),.bool (f 4)]
def updB (f:Nat→Bool) (n:Nat) (x:Bool):Nat→Bool:=fun i=>if i=n then x else f i
theorem bv5_get (f:Nat→Bool) {n:Nat} (hn:n<5):(bv5 f)[n]?=some (.bool (f n)):=by
 have:n=0∨n=1∨n=2∨n=3∨n=4:=by omega
 rcases this with rfl | rfl | rfl | rfl | rfl <;> rfl
theorem bv5_put (f:Nat→Bool) {n:Nat} (hn:n<5) (x:Bool):(spl (bv5 f).toList n [.bool x]).toArray=bv5 (updB f n x):=by
 have:n=0∨n=1∨n=2∨n=3∨n=4:=by omega
 rcases this with rfl | rfl | rfl | rfl | rfl <;> rfl
theorem bv5_one (f:Nat→Bool):∀ u∈(bv5 f).toList,u.oneCell'=true:=by
 intro u hu
 simp only [bv5,List.mem_cons,List.not_mem_nil,or_false] at hu
 rcases hu with rfl | rfl | rfl | rfl | rfl <;> rfl
structure Recs (wr:World) (MO:Foot) (rb:Option Addr) (rs:List Rc):Prop where
 rd:Reads wr wr.heap.size 6 rb rs.length (rcCells rs)
 nm:0<rs.length→∀ x,rb=some x→¬ MO x.block
theorem SiteD.size {F:Foot} {cs:Array Value} (h:SiteD pc F w cs od):cs.size=31:=by
 cases od with
 | none=>cases h; rfl
 | some d=>obtain ⟨q,hh,o,h⟩:=h; exact h.size
theorem siteV_one:∀ u∈siteV.toArray.toList,u.oneCell'=true:=by
 intro u hu
 have hall:siteV.all (fun u=>u.oneCell')=true:=by decide
 exact List.all_eq_true.1 hall u hu
theorem SiteD.one {F:Foot} {cs:Array Value} (h:SiteD pc F w cs od):∀ u∈cs.toList,u.oneCell'=true:=by
 cases od with
 | none=>cases h; exact siteV_one
 | some d=>obtain ⟨q,hh,o,h⟩:=h; exact h.one
theorem flag_info:(Tryz.prog.info? 4).map (·.size)=some 1:=by kernel_rfl
theorem LawL.site (hw:GlW w) (h:LawL pc w M r base hi v es MO od wr):Calls Tryz.prog 11 #[.pointer (some ⟨M,0,none⟩)] wr fun e w' =>
  ∃ cs,e=.returned (.agg cs)∧LawL pc w M r base hi v es (grow MO wr w') od w'∧Frm MO wr w'∧SiteD pc (grow MO wr w') w' cs od:=by
 refine (machD_site hw h.bel h.mach).mono fun e w' he=>?_
 obtain ⟨cs,rfl,h1,h2,h3,h4⟩:=he
 exact ⟨cs,rfl,h.after h1 (fun n h=>h) h2 h3,h2,h4⟩
def SiteQ (pc:Array Value) (F:Foot) (w:World) (cs:Array Value) (q:List Nat):Option Num→Prop
 | none=>cs=siteV.toArray∧q=[]
 | some d=>∃ h o,SiteR pc d F w cs q h o
theorem seqs_rng:allSeqs.all (fun q=>q.all fun s=>decide (1≤s)&&decide (s≤3))=true:=by decide
theorem SiteQ.mem {F:Foot} {cs:Array Value} {q:List Nat} (h:SiteQ pc F w cs q od) {s:Nat} (hs:s∈q):1≤s∧s≤3:=by
 cases od with
 | none=>rw [h.2] at hs; cases hs
 | some d =>
  obtain ⟨hh,o,h⟩:=h
  have:=List.all_eq_true.1 (List.all_eq_true.1 seqs_rng q h.mem) s hs
  simpa using this
theorem seqs_len:allSeqs.all (fun q=>decide (q.length≤3))=true:=by decide
theorem SiteQ.len {F:Foot} {cs:Array Value} {q:List Nat} (h:SiteQ pc F w cs q od):q.length≤3:=by
 cases od with
 | none=>rw [h.2]; exact Nat.zero_le _
 | some d =>
  obtain ⟨hh,o,h⟩:=h
  simpa using List.all_eq_true.1 seqs_len q h.mem
theorem SiteQ.que {F:Foot} {cs:Array Value} {q:List Nat} (h:SiteQ pc F w cs q od):∃ B c,cs[19]?=some (.slice B q.length c)∧∀ p,p<q.length→∃ g off s,B=some ⟨g,off,none⟩∧q[p]?=some s∧s∈q∧w.cell? ⟨g,off+p,none⟩=some (i64 (s:Int))∧F g∧g<w.heap.size:=by
 cases od with
 | none =>
  obtain ⟨rfl,rfl⟩:=h
  exact ⟨none,0,rfl,fun p hp=>by simp at hp⟩
 | some d =>
  obtain ⟨hh,o,h⟩:=h
  obtain ⟨B,c,h1,h2,h3,h4⟩:=h.que
  refine ⟨B,c,h1,fun p hp=>?_⟩
  obtain ⟨ad,e,hlt,hc⟩:=h2.2 (by omega)
  obtain ⟨s,hs⟩:∃ s,q[p]?=some s:=⟨q[p],List.getElem?_eq_getElem hp⟩
  obtain ⟨s0,hs0⟩:∃ s,q[0]?=some s:=⟨q[0]'(by omega),List.getElem?_eq_getElem (by omega)⟩
  have c0:=hc 0 (i64 (s0:Int)) (by rw [List.getElem?_map,hs0]; rfl)
  have hsp:ad.spot=none:=by
   have:=(cell_obj c0).1
   simpa [Addr.add] using this
  have cp:=hc p (i64 (s:Int)) (by rw [List.getElem?_map,hs]; rfl)
  rw [add_at hsp] at cp
  refine ⟨ad.block,ad.off,s,?_,hs,List.mem_of_getElem? hs,cp,h4 _ e,hlt⟩
  rw [e]
  cases ad
  simp only at hsp
  subst hsp
  rfl
structure RecI (pc:Array Value) (w:World) (M r base hi:Nat) (v:Value) (es:List Ev) (MO:Foot) (od:Option Num) (wb bt bs:Nat) (cs ss:Array Value) (q:List Nat) (rb:Option Addr) (rs:List Rc) (f:Nat→Bool) (wr:World):Prop where
 L:LawL pc w M r base hi v es MO od wr
 W:OwnB w wr r base hi MO wb (bv5 f) 53
 T:OwnB w wr r base hi MO bt cs 43
 S:OwnB w wr r base hi MO bs ss 55
 R:Recs wr MO rb rs
 D:SiteQ pc MO wr ss q od
 n1:bt≠wb
 n2:bs≠wb
variable {wb bt bs:Nat} {ss:Array Value} {q:List Nat} {rb:Option Addr} {rs:List Rc} {f f':Nat→Bool}
theorem in_take {q:List Nat} {p s:Nat} {fi:Nat→Bool} (hs:q[p]?=some s) (h:∀ t:Nat,1≤t→t≤3→fi t=decide (t∈q.take p)):∀ t:Nat,1≤t→t≤3→updB fi s true t=decide (t∈q.take (p+1)):=by
 intro t a b
 rw [List.take_add_one,hs]
 unfold updB
 by_cases e:t=s
 ·rw [if_pos e]
  simp [e]
 ·rw [if_neg e,h t a b]
  simp [e]
theorem one_b {x:Bool}:∀ u∈(#[.bool x]:Array Value).toList,u.oneCell'=true:=by
 intro u hu
 simp only [List.mem_cons,List.not_mem_nil,or_false] at hu
 subst hu
 rfl
theorem below_alloc (wr:World) (o:Obj):Below wr.heap.size wr (wr.alloc o):=(Below.refl _ _).alloc (Nat.le_refl _) _
end SE
end
section
namespace Mc
open Go.RowKit SE
variable {P:Program} {ops:Array Oper} {C:World→Prop} {Q:Act→Prop} {a:Act} {o:Oper} {rest:List Oper}
theorem q_val {v:Value} (hw:Region.wanted o (yielded ops a.tmps)=true) (hr:∀ w,C w→(execOp a.eval o).run P w=.ok (.value v) w) (h:wpQuiet P ops C Q rest (a.put o.dst v)):wpQuiet P ops C Q (o::rest) a:=by
 unfold wpQuiet
 rw [if_pos hw]
 refine ⟨v,fun w hC=>?_,h⟩
 unfold Oper.quietAt
 rw [hr w hC]
 exact ⟨rfl,rfl⟩
theorem q_call {v:Value} {f:FuncId} {args:Array Value} (hw:Region.wanted o (yielded ops a.tmps)=true) (hr:∀ w,C w→(execOp a.eval o).run P w=.ok (.enter f args) w) (hc:∀ w,C w→Calls P f args w fun e w'=>e=.returned v∧C w')
  (h:wpQuiet P ops C Q rest (a.put o.dst v)):wpQuiet P ops C Q (o::rest) a:=by
 unfold wpQuiet
 rw [if_pos hw]
 refine ⟨v,fun w hC=>?_,h⟩
 unfold Oper.quietAt
 rw [hr w hC]
 exact ⟨rfl,hc w hC⟩
theorem region_c (C:World→Prop) {id:Nat} {Q:Exit→Act→World→Prop} {w:World} {l:List Oper} (hm:P.follows .mixedOrders=true) (hB:Region.lexB .any l.toArray=true) (hC:C { w with drawn:=w.drawn+1 })
  (h:wpQuiet P l.toArray C (fun a'=>∀ w',C w'→Q .normal a' w') l a):(Code.region id l.toArray true).wp P Q a w:=wp_region_quiet (C:=C) hm hB hC (by simpa using h)
theorem run_load1 {w:World} {b off ty:Nat} {x:Operand} {v:Value} {d:TypeDesc} (ho:o.op=.load ty x) (hx:a.eval x=.pointer (some ⟨b,off,none⟩)) (hc:w.cell? ⟨b,off,none⟩=some v) (hu:P.underlying ty=some d) (hd:d=.bool∨∃ k,d=.int k) :
  (execOp a.eval o).run P w=.ok (.value v) w:=by
 have h:(Instr.loadAt ty (.pointer (some ⟨b,off,none⟩))).run P w=.ok v w:=by
  have ha:(isAgg ty).run P w=.ok false w:=by
   rcases hd with rfl | ⟨k,rfl⟩
   ·exact isAgg_run (u:=.bool) hu trivial w
   ·exact isAgg_run (u:=.int k) hu rfl w
  simp [Instr.loadAt,Instr.sureAddr,loadVar,go_sem,ha,hc]
 simp only [execOp,ho,hx,Sem.run_bind,h,Result.andThen_ok,Sem.run_pure]
end Mc
end
section
namespace Mc
open Go.RowKit SE
variable {P:Program} {a:Act} {o:Oper}
theorem run_loadS {w:World} {b off ty el:Nat} {x:Operand} {v:Value} (ho:o.op=.load ty x) (hx:a.eval x=.pointer (some ⟨b,off,none⟩)) (hc:w.cell? ⟨b,off,none⟩=some v) (hu:P.underlying ty=some (.slice el)):(execOp a.eval o).run P w=.ok (.value v) w:=by
 have h:(Instr.loadAt ty (.pointer (some ⟨b,off,none⟩))).run P w=.ok v w:=by
  have ha:(isAgg ty).run P w=.ok false w:=isAgg_run (u:=.slice el) hu rfl w
  simp [Instr.loadAt,Instr.sureAddr,loadVar,go_sem,ha,hc]
 simp only [execOp,ho,hx,Sem.run_bind,h,Result.andThen_ok,Sem.run_pure]
theorem run_idxS {w:World} {b off t el n c m:Nat} {x y:Operand} {i:TypeInfo} (ho:o.op=.indexAddr t x y) (hx:a.eval x=.slice (some ⟨b,off,none⟩) n c) (hy:a.eval y=.int .i64 (m:Nat)) (hd:P.underlying t=some (.slice el)) (hi:P.info? el=some i) (hs:i.size=1) (hm:m<n) :
  (execOp a.eval o).run P w=.ok (.value (.pointer (some ⟨b,off+m,none⟩))) w:=by
 have h:=idx_sl (P:=P) (c:=c) (p:=⟨b,off,none⟩) (k:=.i64) hd hi hm w
 have e:(Addr.add ⟨b,off,none⟩ (m*i.size))=⟨b,off+m,none⟩:=by
  rw [hs,Nat.mul_one]
  exact In.add_at rfl m
 rw [e] at h
 simp only [execOp,ho,hx,hy,Sem.run_bind,h,Result.andThen_ok,Sem.run_pure]
theorem run_less1 {w:World} {t yt p:Nat} {x y:Operand} (ho:o.op=.binOp .sub t x y yt) (hx:a.eval x=.int .i64 ((p+1:Nat):Int)) (hy:a.eval y=.int .i64 1) (hp:p<100):(execOp a.eval o).run P w=.ok (.value (.int .i64 (p:Nat))) w:=by
 have hb:=binOp_int (P:=P) (op:=.sub) (t:=t) (x:=x) (y:=y) (k:=.i64) (a:=((p+1:Nat):Int)) (b:=1) (by simp) w
 have:(do eqGuard .sub t x y (.int .i64 ((p+1:Nat):Int)) (.int .i64 1); binOp .sub t (.int .i64 ((p+1:Nat):Int)) (.int .i64 1):Sem Value).run P w=.ok (.int .i64 (p:Nat)) w:=by
  rw [hb]
  show Result.ok (Value.int .i64 (IntKind.i64.wrap (((p+1:Nat):Int) - 1))) w=_
  rw [wrap_in (k:=.i64) (by simp only [kmin]; omega) (by simp only [kmax]; omega)]
  congr 2
  omega
 simpa [execOp,ho,hx,hy] using v_run this
theorem queue_sl:∃ i,Tryz.prog.underlying 52=some (.slice 3)∧Tryz.prog.info? 3=some i∧i.size=1:=by
 have h:(match Tryz.prog.underlying 52,Tryz.prog.info? 3 with | some (.slice 3),some i=>i.size == 1 | _,_=>false)=true:=by kernel_rfl
 split at h
 ·rename_i i e1 e2
  exact ⟨i,e1,e2,by simpa using h⟩
 ·cases h
theorem name12:Tryz.f12.name ≠ "runtime.NumGoroutine" := by
 have h:(Tryz.f12.name == "runtime.NumGoroutine")=false:=by kernel_rfl
 intro e
 rw [e] at h
 cases h
theorem body12:Tryz.f12.body≠none:=by
 have h:Tryz.f12.body.isNone=false:=by kernel_rfl
 intro e
 rw [e] at h
 cases h
end Mc
namespace SE
open Go.RowKit Mc In
variable {w w' wr wr':World} {pc:Array Value} {M r base hi bs bi:Nat} {v:Value} {es:List Ev} {MO:Foot} {d:Num} {ss cs:Array Value} {f f':Nat→Bool} {q:List Nat} {h o:Int} {t:Nat}
structure RoomI (pc:Array Value) (w:World) (M r base hi:Nat) (v:Value) (es:List Ev) (MO:Foot) (d:Num) (bs bi:Nat) (ss:Array Value) (f:Nat→Bool) (q:List Nat) (h o:Int) (wr:World):Prop where
 L:LawL pc w M r base hi v es MO (some d) wr
 S:OwnB w wr r base hi MO bs ss 55
 I:OwnB w wr r base hi MO bi (bv5 f) 53
 D:SiteR pc d MO wr ss q h o
 ne:bs≠bi
theorem RoomI.more (hw:GlW w) (H:RoomI pc w M r base hi v es MO d bs bi ss f q h o wr) (hb:Below wr.heap.size wr wr'):RoomI pc w M r base hi v es MO d bs bi ss f q h o wr' :=
 ⟨H.L.more hw hb,H.S.more hb,H.I.more hb,H.D.keep hb.size fun n hn=>hb.block n (H.L.lt n hn),H.ne⟩
theorem RoomI.put (hw:GlW w) (H:RoomI pc w M r base hi v es MO d bs bi ss f q h o wr) (hW:Wr wr wr' bi (bv5 f') 53):RoomI pc w M r base hi v es MO d bs bi ss f' q h o wr' :=
 ⟨H.L.setB hw H.I hW,H.S.other hW H.ne,H.I.set hW,H.D.keep (Nat.le_of_eq hW.size.symm) fun n hn=>hW.same n fun e=>H.I.nm (e ▸ hn),H.ne⟩
def cntOn (p:Int×Int×Int) (s:Nat):Int:=if s≤1 then 0 else if s=2 then p.1 else if s=3 then p.1+p.2.1 else p.1+p.2.1+p.2.2
theorem cnt_step (p:Int×Int×Int) {s:Nat} (h1:1≤s) (h3:s≤3):cntOn p (s+1)=cntOn p s+get3 p s:=by
 have:s=1∨s=2∨s=3:=by omega
 rcases this with rfl | rfl | rfl
 ·simp [cntOn,get3]
 ·simp [cntOn,get3]
 ·simp [cntOn,get3]
theorem cnt_rng {p:Int×Int×Int} (hp:∀ s:Int,1≤s→s≤3→get3 p s=0∨get3 p s=1) (s:Nat):0≤cntOn p s∧cntOn p s≤3:=by
 have h1:=hp 1 (by decide) (by decide)
 have h2:=hp 2 (by decide) (by decide)
 have h3:=hp 3 (by decide) (by decide)
 simp [get3] at h1 h2 h3
 unfold cntOn
 split
 ·omega
 ·split
  ·omega
  ·split <;> omega
theorem rank_0 (hp:PolFit pc) {s:Nat} (hs:s<5):0≤rank pc s:=by
 obtain ⟨i,hi,e⟩:=hp.perm s hs
 unfold rank rankOf
 have:i=0∨i=1∨i=2∨i=3∨i=4:=by omega
 rcases this with rfl | rfl | rfl | rfl | rfl <;> (repeat (first | omega | split))
theorem seqs_take:allSeqs.all (fun q=>(List.range 3).all fun p=>match q[p]? with | some s=>decide (s ∉ q.take p) | none=>true)=true:=by decide
theorem not_take {q:List Nat} {p s:Nat} (hq:q∈allSeqs) (hl:q.length≤3) (h:q[p]?=some s):s ∉ q.take p:=by
 have hp:=(List.getElem?_eq_some_iff.1 h).1
 have:=List.all_eq_true.1 (List.all_eq_true.1 seqs_take q hq) p (List.mem_range.2 (by omega))
 rw [h] at this
 simpa using this
theorem SiteR.who (hp:PolFit pc) {F:Foot} {q:List Nat} (H:SiteR pc d F wr ss q h o) {p:Nat} (hl:p<q.length):∃ g off c s,ss[19]?=some (.slice (some ⟨g,off,none⟩) q.length c)∧q[p]?=some s∧(1≤s∧s≤3)∧wr.cell? ⟨g,off+p,none⟩=some (.int .i64 (s:Int))∧(g<wr.heap.size∧F g) ∧
  ss[20+s]?=some (.bool true)∧h≠s∧s ∉ q.take p∧∀ p',p=p'+1→∃ s':Nat,(0≤rank pc s'∧rank pc s'<rank pc s)∧wr.cell? ⟨g,off+p',none⟩=some (.int .i64 (s':Int)):=by
 have HQ:SiteQ pc F wr ss q (some d):=⟨h,o,H⟩
 obtain ⟨B,c,e19,hq⟩:=HQ.que
 obtain ⟨g,off,s,rfl,hs,hm,hc,hF,hg⟩:=hq p hl
 obtain ⟨s1,s3⟩:=HQ.mem hm
 have hw:=H.wt s s1 s3
 simp only [isOn,if_pos hm] at hw
 have hwo:=H.wton s (by omega) (by omega)
 have hon:get3 d.on s≠0:=by omega
 have e20:=H.on s s1 s3
 rw [show (decide (get3 d.on s≠0))=true by simpa using hon] at e20
 refine ⟨g,off,c,s,e19,hs,⟨s1,s3⟩,hc,⟨hg,hF⟩,e20,fun e=>?_,not_take H.mem HQ.len hs,fun p' hp'=>?_⟩
 ·have:=H.hq s (by omega) (by omega) e
  omega
 ·obtain ⟨g',off',s',e1,hs',hm',hc',_⟩:=hq p' (by omega)
  cases e1
  refine ⟨s',⟨rank_0 hp (by have:=(HQ.mem hm').2; omega),H.srt p' s' s hs' (by rw [← hp']; exact hs)⟩,hc'⟩
end SE
end
end Go.Proofs.YtdgejnakakjgfaaGreatDoor
