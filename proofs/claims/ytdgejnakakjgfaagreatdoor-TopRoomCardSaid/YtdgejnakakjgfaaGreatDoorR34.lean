/- The bytes of link 1. The bytes of link 2. The bytes of link 3. A round of a step: what was told is put together. What comes of any event. -/
import Derived.Test.YtdgejnakakjgfaaGreatDoorR33
import Derived.Deep.MidRow
import Derived.KernelRfl
set_option linter.unusedVariables false
set_option linter.unusedSimpArgs false
set_option maxRecDepth 100000
namespace Go.Proofs.YtdgejnakakjgfaaGreatDoor
section
namespace Mc
open Go.RowKit Go.Shelf
open SE (Rc rcCells i64)
open Crc Fr St
attribute [local go_sem] Oper.semAt_some
set_option maxHeartbeats 2000000
variable {δ:Type} {K:δ→Foot→World→Prop} {mo:Int} {RB:Nat→δ→δ→List Rc→Prop} {RS RT:δ→δ→List Rc→Prop} {RH:Bool→δ→δ→List Rc→Prop} {Bc:Nat}
set_option maxHeartbeats 8000000 in
theorem comes_bytes1 (hC:CoreI Bc K mo RB RS RT RH) {L:Nat} {J:Nat→List Rc→Foot→World→Prop} (hR:RoundI mo Fence.wide 2 L J) (M be bm g n0 m:Nat) (w:World) (d:δ) (O A:Foot) (rs:List Rc)
  (hRB0:∀ l d,RB l d d []) (hRBt:∀ l d1 d2 d3 r1 r2,RB l d1 d2 r1→RB l d2 d3 r2→RB l d1 d3 (r1++r2))
  (B:Option Addr) (n c:Nat) (x rest:List UInt8)
  (hK:K d O w) (hJ:J m rs A w) (hd:∀ n,A n→¬ O n) (hm0:m≤500) (hlen:rs.length≤10000)
  (hfar:∀ b,b=bm∨b=M∨b=be→¬ O b∧¬ A b∧b≠g) (hgo:¬ O g∧¬ A g)
  (hm:w.cell? ⟨bm,0,none⟩=some (.pointer (some ⟨M,0,none⟩))) (hM:w.cell? ⟨M,0,none⟩=some (.pointer (some ⟨Bc,0,none⟩))) (hMg1:w.cell? ⟨M,2,none⟩=some (.pointer (some ⟨g,0,none⟩)))
  (hk:w.cell? ⟨be,0,none⟩=some (.int .i64 0)) (hsrc:w.cell? ⟨be,1,none⟩=some (.int .i64 (1:Nat))) (hB:w.cell? ⟨be,2,none⟩=some (.slice B n c))
  (hrd:Reads w w.heap.size 1 B n (x.map bv)) (hn:n≤120) (hst:Strm w n0 g rest) (hrl:rest.length≤40) :
  CallsIn Fence.wide 2 Tryz.prog 31 #[.func (.yield L) #[] #[],.pointer (some ⟨be,0,none⟩),.pointer (some ⟨bm,0,none⟩)] w fun e w'=>(∃ v,e=.returned v)∧WentB K (fun rs A w=>∃ m',m'≤m+160∧J m' rs A w) (RB 1) d rs O A g w w':=by
 have hst0:Strm w.drew n0 g rest:=hst
 have hrd0:Reads w.drew w.heap.size 1 B n (x.map bv):=hrd
 have hT:=hst0.take w.heap.size B n c x hrd0 (Nat.le_refl _) (by omega) (by omega)
 have hK0:=hC.keep _ _ _ _ hK (Same.drew O w)
 have hJ0:=hR.keep _ _ _ _ _ hJ (Same.drew A w)
 have hxl:x.length=n:=by simpa using hrd.1
 have hits:=scan_items _ (rest++x) (Nat.le_refl _)
 have hleft:=left_short (rest++x)
 have hmx:Tryz.prog.follows .mixedOrders=true:=by kernel_rfl
 refine callsIn_of_wp Tryz.func31 rfl trivial ?_ rfl
 simp only [Tryz.ntmps31,List.size_toArray,List.length_cons,List.length_nil,Nat.reduceAdd,Nat.reduceSub,Array.replicate_succ,Array.replicate_zero,List.push_toArray,List.append_toArray,List.nil_append,List.cons_append]
 gi_wp2
 rename_i Q0 K0 hK00
 have key:∀ (w1:World) (A':Option Addr) (k' c':Nat),OwnI w1 w.drew.heap.size (g5 w1 w.drew.heap.size) A' k' c' (scan (rest++x)).fst→Strm w1 w.drew.heap.size g (scan (rest++x)).snd→w.drew.grownBy w1 (some g) →
   K0 { tmps:=#[.func (.yield L) #[] #[],.pointer (some ⟨be,0,none⟩),.pointer (some ⟨bm,0,none⟩),undef,undef,undef,.pointer (some ⟨be,0,none⟩),.int .i64 0,.bool true,.bool true,.pointer (some ⟨be,1,none⟩),.int .i64 1,.bool false,.bool false,.pointer (some ⟨be,1,none⟩),.int .i64 1,.bool false,.bool false,.pointer (some ⟨M,0,none⟩),.pointer (some ⟨be,1,none⟩),.int .i64 1,.int .i64 0,.pointer (some ⟨M,0,none⟩),.pointer (some ⟨M,2,none⟩),.pointer (some ⟨M,2,none⟩),.pointer (some ⟨g,0,none⟩),.pointer (some ⟨be,2,none⟩),.slice B n c,.slice A' k' c',.int .i64 (k':Nat),.int .i64 0,undef,undef,undef,undef,undef,undef,undef,undef,undef,undef,undef,undef,undef,undef,undef,undef,undef,undef,undef,undef,undef,undef,undef,undef,undef,undef,undef,undef,undef,undef,undef,undef,undef,undef,undef,undef,undef,undef,undef,undef,undef,undef,undef,undef,undef,undef],defers:=[] } w1:=by
  intro w1 A' k' c' hOI hst' hgr
  have hK1:=hC.keep _ _ _ _ hK0 (grown_same hgr (fun n hn=>hC.lt _ _ _ n hK0 hn) hgo.1)
  have hJ1:=hR.keep _ _ _ _ _ hJ0 (grown_same hgr (fun n hn=>hR.lt _ _ _ _ n hJ0 hn) hgo.2)
  have hkl:k'=(scan (rest++x)).1.length:=hOI.length.symm
  have hkl2:k'≤160:=by have:=hits.2; simp only [List.length_append] at this; omega
  have hsz1:w.heap.size≤w1.heap.size:=hgr.size
  have hc1:∀ b,b=bm∨b=M∨b=be→∀ o v,w.cell? ⟨b,o,none⟩=some v→w1.cell? ⟨b,o,none⟩=some v:=fun b hb o v hv=>by
   rw [← hv]
   exact World.cell?_of_block (hgr.block b (cell_lt hv) (fun e=>(hfar b hb).2.2 (by cases e; rfl)))
  refine hK00 _ _ ?_
  gi_wp2
  gi_loopw [30] (fun i wr=>∃ k:Nat,k≤k'∧i=.int .i64 k∧BInv K J m (RB 1) d rs O A w1 k wr)
   (fun i _=>k' - (intOf i).toNat)
  case atStart=>exact ⟨0,Nat.zero_le _,rfl,d,[],O,A,hK1,by simpa using hJ1,hRB0 _ _,by simp,hd,fun n h=>.inl h,fun n h=>.inl h,Frm.refl _ _⟩
  case round =>
   obtain ⟨k,hk,rfl,d1,rs1,O1,A1,hKr,hJr,hRr,hlr,hdr,hOr,hAr,hFr⟩:=hrel
   have hcr:∀ b,b=bm∨b=M∨b=be→∀ o v,w.cell? ⟨b,o,none⟩=some v→wr.cell? ⟨b,o,none⟩=some v:=fun b hb o v hv=>by
    rw [← hc1 b hb o v hv]
    have:=cell_lt hv
    exact World.cell?_of_block (hFr.same b (by simp only at this; omega) (fun h=>h.elim (hfar b hb).1 (hfar b hb).2.1))
   have hnew:∀ n,w.drew.heap.size≤n→n<w1.heap.size→wr.heap[n]?=w1.heap[n]?∧¬ O1 n:=fun n h1 h2=>by
    have h3:¬ O n:=fun h=>by have:=hC.lt _ _ _ _ hK h; have h2:w.drew.heap.size=w.heap.size:=rfl; omega
    have h4:¬ A n:=fun h=>by have:=hR.lt _ _ _ _ _ hJ h; have h2:w.drew.heap.size=w.heap.size:=rfl; omega
    refine ⟨hFr.same n h2 (fun h=>h.elim h3 h4),fun h=>?_⟩
    rcases hOr n h with h | h
    ·exact h3 h
    ·omega
   by_cases hlt:k<k'
   ·obtain ⟨gi,rfl,hg1,hg2,cd,Ab,kb,cb,c1,c2,hcd,hkb,hcb,hbr,hbb⟩:=item_at hOI hlt hits.1
    have hge:=(hnew gi hg2 hg1).1
    have c1':wr.cell? ⟨gi,k*2,none⟩=some (.int .i64 cd):=(World.cell?_of_block hge).trans c1
    have c2':wr.cell? ⟨gi,k*2+1,none⟩=some (.slice Ab kb cb):=(World.cell?_of_block hge).trans c2
    have hmr:=hcr bm (.inl rfl) _ _ hm
    have hMr:=hcr M (.inr (.inl rfl)) _ _ hM
    have hsr:=hcr be (.inr (.inr rfl)) _ _ hsrc
    have hl1:bm<wr.heap.size:=cell_lt hmr
    have hl2:M<wr.heap.size:=cell_lt hMr
    have hl3:be<wr.heap.size:=cell_lt hsr
    have hl4:gi<wr.heap.size:=Nat.lt_of_lt_of_le hg1 hFr.size
    obtain ⟨wa,hwa⟩:∃ wa,wa=(wr.alloc (Obj.cells #[Value.int IntKind.i64 cd,Value.slice Ab kb cb] 93)).drew:=⟨_,rfl⟩
    have hFa:Frm (fun _=>False) wr wa:=by rw [hwa]; exact frm_alloc wr _
    have hKa:K d1 O1 wa:=hC.keep _ _ _ _ hKr (hFa.none_keeps fun n hn=>hC.lt _ _ _ n hKr hn)
    have hJa:J (m+k) (rs++rs1) A1 wa:=hR.keep _ _ _ _ _ hJr (hFa.none_keeps fun n hn=>hR.lt _ _ _ _ n hJr hn)
    have hbra:BRow wa Ab kb:=hbr.keep (Nat.le_trans hFr.size hFa.size) fun y hy=>by
     have hlt1:=hbr.2 y hy
     rw [hFa.same _ (Nat.lt_of_lt_of_le hlt1 hFr.size) (fun h=>h)]
     exact (hnew _ (hbb y hy) hlt1).1
    have hI:=hC.item d1 O1 wa 1 cd Ab kb cb hKa (by omega) (by omega) (by omega) (by omega) hkb hcb hbra (fun y hy=>(hnew _ (hbb y hy) (hbr.2 y hy)).2)
    have hlen1:(rs++rs1).length≤100000:=by simp only [List.length_append]; omega
    have hI2:Calls Tryz.prog 33 #[.pointer (some ⟨Bc,0,none⟩),.int .i64 (1:Nat),.agg #[.int .i64 cd,.slice Ab kb cb]] wa fun e w2=>∃ t,e=.returned t∧∃ d2 rs2,K d2 (grow O1 wa w2) w2∧Frm O1 wa w2∧ToldV mo (grow O1 wa w2) w2 t rs2∧RB 1 d1 d2 rs2 :=
     hI.mono fun e w2 ⟨d2,t,rs2,h1,h2,h3,h4,h5⟩=>⟨t,h1,d2,rs2,h2,h3,h4,h5⟩
    have hY:∀ t w2,(∃ d2 rs2,K d2 (grow O1 wa w2) w2∧Frm O1 wa w2∧ToldV mo (grow O1 wa w2) w2 t rs2∧RB 1 d1 d2 rs2)→YieldAt Fence.wide 1 Tryz.prog L #[t] w2 fun e w3=>e=.returned (.bool true)∧BInv K J m (RB 1) d rs O A w1 (k+1) w3:=by
     rintro t w2 ⟨d2,rs2,hK2,hF2,hTo,hRel⟩
     have hJ2:=hR.keep _ _ _ _ _ hJa (hF2.keeps (fun n hn=>hR.lt _ _ _ _ n hJa hn) hdr)
     refine (hR.round _ _ _ _ _ t rs2 hJ2 (by omega) hlen1 hTo (fun n hn hg=>by rcases hg with hg | hg; exact hdr n hn hg; have:=hR.lt _ _ _ _ n hJa hn; omega)).mono ?_
     rintro e w3 ⟨rfl,hJ3,hF3⟩
     obtain ⟨d',rs',O',A',q1,q2,q3,q4,q5,q6,q7,q8⟩:=loop_step hC (J':=J (m+k+1)) (fun rs A w n h1 h2=>hR.lt (m+k) rs A w n h1 h2) hRBt hJa hRr hdr hOr hAr hFr hFa hK2 hF2 hRel hJ3 hF3
     have:=told_len hTo
     exact ⟨rfl,d',rs',O',A',q1,q2,q3,by omega,q5,q6,q7,q8⟩
    gi_wp2
    rename_i K1 hK11
    refine wpIn_mono (reg6_ok (M:=M) (QN:=K1) hmx ?_ ?_ ?_ ?_ ?_ (by rw [← hwa]; exact hI2) hY ?_) (fun e a w h=>by cases e <;> first | exact h | exact h.elim)
    ·rw [← hwa]; exact (hFa.cell (a:=⟨bm,0,none⟩) hl1 (fun h=>h)).trans hmr
    ·rw [← hwa]; exact (hFa.cell (a:=⟨M,0,none⟩) hl2 (fun h=>h)).trans hMr
    ·rw [← hwa]; exact (hFa.cell (a:=⟨be,1,none⟩) hl3 (fun h=>h)).trans hsr
    ·exact cell_new wr _ 93 (0,0) 0 _ rfl
    ·exact cell_new wr _ 93 (0,0) 1 _ rfl
    ·intro t w3 hP2
     refine hK11 _ _ ?_
     gi_wp2
     exact ⟨⟨k+1,by omega,rfl,hP2⟩,by show k' - ((k:Int)+1).toNat<k' - ((k:Int)).toNat; omega⟩
   ·gi_wp2
    go_end0
    exact ⟨⟨_,rfl⟩,wentB_end (fun n hn=>hC.lt _ _ _ n hK hn) (fun n hn=>hR.lt _ _ _ _ n hJ hn) hst.1 hgo hgr hst' (by omega) hKr ⟨m+k,by omega,hJr⟩ hRr hlr (by omega) hdr hOr hAr hFr⟩
 gi_region_with_o (refine ⟨trivial,?_⟩; refine (callsIn_wide.2 hT).mono ?_; rintro e w1 ⟨A',k',c',rfl,hOI,hst',hgr⟩)
 all_goals exact key _ _ _ _ hOI hst' hgr
end Mc
end
section
namespace Mc
open Go.RowKit Go.Shelf
open SE (Rc rcCells i64)
open Crc Fr St
attribute [local go_sem] Oper.semAt_some
set_option maxHeartbeats 2000000
variable {δ:Type} {K:δ→Foot→World→Prop} {mo:Int} {RB:Nat→δ→δ→List Rc→Prop} {RS RT:δ→δ→List Rc→Prop} {RH:Bool→δ→δ→List Rc→Prop} {Bc:Nat}
set_option maxHeartbeats 8000000 in
theorem comes_bytes2 (hC:CoreI Bc K mo RB RS RT RH) {L:Nat} {J:Nat→List Rc→Foot→World→Prop} (hR:RoundI mo Fence.wide 2 L J) (M be bm g n0 m:Nat) (w:World) (d:δ) (O A:Foot) (rs:List Rc)
  (hRB0:∀ l d,RB l d d []) (hRBt:∀ l d1 d2 d3 r1 r2,RB l d1 d2 r1→RB l d2 d3 r2→RB l d1 d3 (r1++r2))
  (B:Option Addr) (n c:Nat) (x rest:List UInt8)
  (hK:K d O w) (hJ:J m rs A w) (hd:∀ n,A n→¬ O n) (hm0:m≤500) (hlen:rs.length≤10000)
  (hfar:∀ b,b=bm∨b=M∨b=be→¬ O b∧¬ A b∧b≠g) (hgo:¬ O g∧¬ A g)
  (hm:w.cell? ⟨bm,0,none⟩=some (.pointer (some ⟨M,0,none⟩))) (hM:w.cell? ⟨M,0,none⟩=some (.pointer (some ⟨Bc,0,none⟩))) (hMg1:w.cell? ⟨M,3,none⟩=some (.pointer (some ⟨g,0,none⟩)))
  (hk:w.cell? ⟨be,0,none⟩=some (.int .i64 0)) (hsrc:w.cell? ⟨be,1,none⟩=some (.int .i64 (2:Nat))) (hB:w.cell? ⟨be,2,none⟩=some (.slice B n c))
  (hrd:Reads w w.heap.size 1 B n (x.map bv)) (hn:n≤120) (hst:Strm w n0 g rest) (hrl:rest.length≤40) :
  CallsIn Fence.wide 2 Tryz.prog 31 #[.func (.yield L) #[] #[],.pointer (some ⟨be,0,none⟩),.pointer (some ⟨bm,0,none⟩)] w fun e w'=>(∃ v,e=.returned v)∧WentB K (fun rs A w=>∃ m',m'≤m+160∧J m' rs A w) (RB 2) d rs O A g w w':=by
 have hst0:Strm w.drew n0 g rest:=hst
 have hrd0:Reads w.drew w.heap.size 1 B n (x.map bv):=hrd
 have hT:=hst0.take w.heap.size B n c x hrd0 (Nat.le_refl _) (by omega) (by omega)
 have hK0:=hC.keep _ _ _ _ hK (Same.drew O w)
 have hJ0:=hR.keep _ _ _ _ _ hJ (Same.drew A w)
 have hxl:x.length=n:=by simpa using hrd.1
 have hits:=scan_items _ (rest++x) (Nat.le_refl _)
 have hleft:=left_short (rest++x)
 have hmx:Tryz.prog.follows .mixedOrders=true:=by kernel_rfl
 refine callsIn_of_wp Tryz.func31 rfl trivial ?_ rfl
 simp only [Tryz.ntmps31,List.size_toArray,List.length_cons,List.length_nil,Nat.reduceAdd,Nat.reduceSub,Array.replicate_succ,Array.replicate_zero,List.push_toArray,List.append_toArray,List.nil_append,List.cons_append]
 gi_wp2
 rename_i Q0 K0 hK00
 have key:∀ (w1:World) (A':Option Addr) (k' c':Nat),OwnI w1 w.drew.heap.size (g5 w1 w.drew.heap.size) A' k' c' (scan (rest++x)).fst→Strm w1 w.drew.heap.size g (scan (rest++x)).snd→w.drew.grownBy w1 (some g) →
   K0 { tmps:=#[.func (.yield L) #[] #[],.pointer (some ⟨be,0,none⟩),.pointer (some ⟨bm,0,none⟩),undef,undef,undef,.pointer (some ⟨be,0,none⟩),.int .i64 0,.bool true,.bool true,.pointer (some ⟨be,1,none⟩),.int .i64 2,.bool false,.bool false,.pointer (some ⟨be,1,none⟩),.int .i64 2,.bool false,.bool false,.pointer (some ⟨M,0,none⟩),.pointer (some ⟨be,1,none⟩),.int .i64 2,.int .i64 1,.pointer (some ⟨M,0,none⟩),.pointer (some ⟨M,2,none⟩),.pointer (some ⟨M,3,none⟩),.pointer (some ⟨g,0,none⟩),.pointer (some ⟨be,2,none⟩),.slice B n c,.slice A' k' c',.int .i64 (k':Nat),.int .i64 0,undef,undef,undef,undef,undef,undef,undef,undef,undef,undef,undef,undef,undef,undef,undef,undef,undef,undef,undef,undef,undef,undef,undef,undef,undef,undef,undef,undef,undef,undef,undef,undef,undef,undef,undef,undef,undef,undef,undef,undef,undef,undef,undef,undef,undef,undef],defers:=[] } w1:=by
  intro w1 A' k' c' hOI hst' hgr
  have hK1:=hC.keep _ _ _ _ hK0 (grown_same hgr (fun n hn=>hC.lt _ _ _ n hK0 hn) hgo.1)
  have hJ1:=hR.keep _ _ _ _ _ hJ0 (grown_same hgr (fun n hn=>hR.lt _ _ _ _ n hJ0 hn) hgo.2)
  have hkl:k'=(scan (rest++x)).1.length:=hOI.length.symm
  have hkl2:k'≤160:=by have:=hits.2; simp only [List.length_append] at this; omega
  have hsz1:w.heap.size≤w1.heap.size:=hgr.size
  have hc1:∀ b,b=bm∨b=M∨b=be→∀ o v,w.cell? ⟨b,o,none⟩=some v→w1.cell? ⟨b,o,none⟩=some v:=fun b hb o v hv=>by
   rw [← hv]
   exact World.cell?_of_block (hgr.block b (cell_lt hv) (fun e=>(hfar b hb).2.2 (by cases e; rfl)))
  refine hK00 _ _ ?_
  gi_wp2
  gi_loopw [30] (fun i wr=>∃ k:Nat,k≤k'∧i=.int .i64 k∧BInv K J m (RB 2) d rs O A w1 k wr)
   (fun i _=>k' - (intOf i).toNat)
  case atStart=>exact ⟨0,Nat.zero_le _,rfl,d,[],O,A,hK1,by simpa using hJ1,hRB0 _ _,by simp,hd,fun n h=>.inl h,fun n h=>.inl h,Frm.refl _ _⟩
  case round =>
   obtain ⟨k,hk,rfl,d1,rs1,O1,A1,hKr,hJr,hRr,hlr,hdr,hOr,hAr,hFr⟩:=hrel
   have hcr:∀ b,b=bm∨b=M∨b=be→∀ o v,w.cell? ⟨b,o,none⟩=some v→wr.cell? ⟨b,o,none⟩=some v:=fun b hb o v hv=>by
    rw [← hc1 b hb o v hv]
    have:=cell_lt hv
    exact World.cell?_of_block (hFr.same b (by simp only at this; omega) (fun h=>h.elim (hfar b hb).1 (hfar b hb).2.1))
   have hnew:∀ n,w.drew.heap.size≤n→n<w1.heap.size→wr.heap[n]?=w1.heap[n]?∧¬ O1 n:=fun n h1 h2=>by
    have h3:¬ O n:=fun h=>by have:=hC.lt _ _ _ _ hK h; have h2:w.drew.heap.size=w.heap.size:=rfl; omega
    have h4:¬ A n:=fun h=>by have:=hR.lt _ _ _ _ _ hJ h; have h2:w.drew.heap.size=w.heap.size:=rfl; omega
    refine ⟨hFr.same n h2 (fun h=>h.elim h3 h4),fun h=>?_⟩
    rcases hOr n h with h | h
    ·exact h3 h
    ·omega
   by_cases hlt:k<k'
   ·obtain ⟨gi,rfl,hg1,hg2,cd,Ab,kb,cb,c1,c2,hcd,hkb,hcb,hbr,hbb⟩:=item_at hOI hlt hits.1
    have hge:=(hnew gi hg2 hg1).1
    have c1':wr.cell? ⟨gi,k*2,none⟩=some (.int .i64 cd):=(World.cell?_of_block hge).trans c1
    have c2':wr.cell? ⟨gi,k*2+1,none⟩=some (.slice Ab kb cb):=(World.cell?_of_block hge).trans c2
    have hmr:=hcr bm (.inl rfl) _ _ hm
    have hMr:=hcr M (.inr (.inl rfl)) _ _ hM
    have hsr:=hcr be (.inr (.inr rfl)) _ _ hsrc
    have hl1:bm<wr.heap.size:=cell_lt hmr
    have hl2:M<wr.heap.size:=cell_lt hMr
    have hl3:be<wr.heap.size:=cell_lt hsr
    have hl4:gi<wr.heap.size:=Nat.lt_of_lt_of_le hg1 hFr.size
    obtain ⟨wa,hwa⟩:∃ wa,wa=(wr.alloc (Obj.cells #[Value.int IntKind.i64 cd,Value.slice Ab kb cb] 93)).drew:=⟨_,rfl⟩
    have hFa:Frm (fun _=>False) wr wa:=by rw [hwa]; exact frm_alloc wr _
    have hKa:K d1 O1 wa:=hC.keep _ _ _ _ hKr (hFa.none_keeps fun n hn=>hC.lt _ _ _ n hKr hn)
    have hJa:J (m+k) (rs++rs1) A1 wa:=hR.keep _ _ _ _ _ hJr (hFa.none_keeps fun n hn=>hR.lt _ _ _ _ n hJr hn)
    have hbra:BRow wa Ab kb:=hbr.keep (Nat.le_trans hFr.size hFa.size) fun y hy=>by
     have hlt1:=hbr.2 y hy
     rw [hFa.same _ (Nat.lt_of_lt_of_le hlt1 hFr.size) (fun h=>h)]
     exact (hnew _ (hbb y hy) hlt1).1
    have hI:=hC.item d1 O1 wa 2 cd Ab kb cb hKa (by omega) (by omega) (by omega) (by omega) hkb hcb hbra (fun y hy=>(hnew _ (hbb y hy) (hbr.2 y hy)).2)
    have hlen1:(rs++rs1).length≤100000:=by simp only [List.length_append]; omega
    have hI2:Calls Tryz.prog 33 #[.pointer (some ⟨Bc,0,none⟩),.int .i64 (2:Nat),.agg #[.int .i64 cd,.slice Ab kb cb]] wa fun e w2=>∃ t,e=.returned t∧∃ d2 rs2,K d2 (grow O1 wa w2) w2∧Frm O1 wa w2∧ToldV mo (grow O1 wa w2) w2 t rs2∧RB 2 d1 d2 rs2 :=
     hI.mono fun e w2 ⟨d2,t,rs2,h1,h2,h3,h4,h5⟩=>⟨t,h1,d2,rs2,h2,h3,h4,h5⟩
    have hY:∀ t w2,(∃ d2 rs2,K d2 (grow O1 wa w2) w2∧Frm O1 wa w2∧ToldV mo (grow O1 wa w2) w2 t rs2∧RB 2 d1 d2 rs2)→YieldAt Fence.wide 1 Tryz.prog L #[t] w2 fun e w3=>e=.returned (.bool true)∧BInv K J m (RB 2) d rs O A w1 (k+1) w3:=by
     rintro t w2 ⟨d2,rs2,hK2,hF2,hTo,hRel⟩
     have hJ2:=hR.keep _ _ _ _ _ hJa (hF2.keeps (fun n hn=>hR.lt _ _ _ _ n hJa hn) hdr)
     refine (hR.round _ _ _ _ _ t rs2 hJ2 (by omega) hlen1 hTo (fun n hn hg=>by rcases hg with hg | hg; exact hdr n hn hg; have:=hR.lt _ _ _ _ n hJa hn; omega)).mono ?_
     rintro e w3 ⟨rfl,hJ3,hF3⟩
     obtain ⟨d',rs',O',A',q1,q2,q3,q4,q5,q6,q7,q8⟩:=loop_step hC (J':=J (m+k+1)) (fun rs A w n h1 h2=>hR.lt (m+k) rs A w n h1 h2) hRBt hJa hRr hdr hOr hAr hFr hFa hK2 hF2 hRel hJ3 hF3
     have:=told_len hTo
     exact ⟨rfl,d',rs',O',A',q1,q2,q3,by omega,q5,q6,q7,q8⟩
    gi_wp2
    rename_i K1 hK11
    refine wpIn_mono (reg6_ok (M:=M) (QN:=K1) hmx ?_ ?_ ?_ ?_ ?_ (by rw [← hwa]; exact hI2) hY ?_) (fun e a w h=>by cases e <;> first | exact h | exact h.elim)
    ·rw [← hwa]; exact (hFa.cell (a:=⟨bm,0,none⟩) hl1 (fun h=>h)).trans hmr
    ·rw [← hwa]; exact (hFa.cell (a:=⟨M,0,none⟩) hl2 (fun h=>h)).trans hMr
    ·rw [← hwa]; exact (hFa.cell (a:=⟨be,1,none⟩) hl3 (fun h=>h)).trans hsr
    ·exact cell_new wr _ 93 (0,0) 0 _ rfl
    ·exact cell_new wr _ 93 (0,0) 1 _ rfl
    ·intro t w3 hP2
     refine hK11 _ _ ?_
     gi_wp2
     exact ⟨⟨k+1,by omega,rfl,hP2⟩,by show k' - ((k:Int)+1).toNat<k' - ((k:Int)).toNat; omega⟩
   ·gi_wp2
    go_end0
    exact ⟨⟨_,rfl⟩,wentB_end (fun n hn=>hC.lt _ _ _ n hK hn) (fun n hn=>hR.lt _ _ _ _ n hJ hn) hst.1 hgo hgr hst' (by omega) hKr ⟨m+k,by omega,hJr⟩ hRr hlr (by omega) hdr hOr hAr hFr⟩
 gi_region_with_o (refine ⟨trivial,?_⟩; refine (callsIn_wide.2 hT).mono ?_; rintro e w1 ⟨A',k',c',rfl,hOI,hst',hgr⟩)
 all_goals exact key _ _ _ _ hOI hst' hgr
end Mc
end
section
namespace Mc
open Go.RowKit Go.Shelf
open SE (Rc rcCells i64)
open Crc Fr St
attribute [local go_sem] Oper.semAt_some
set_option maxHeartbeats 2000000
variable {δ:Type} {K:δ→Foot→World→Prop} {mo:Int} {RB:Nat→δ→δ→List Rc→Prop} {RS RT:δ→δ→List Rc→Prop} {RH:Bool→δ→δ→List Rc→Prop} {Bc:Nat}
set_option maxHeartbeats 8000000 in
theorem comes_bytes3 (hC:CoreI Bc K mo RB RS RT RH) {L:Nat} {J:Nat→List Rc→Foot→World→Prop} (hR:RoundI mo Fence.wide 2 L J) (M be bm g n0 m:Nat) (w:World) (d:δ) (O A:Foot) (rs:List Rc)
  (hRB0:∀ l d,RB l d d []) (hRBt:∀ l d1 d2 d3 r1 r2,RB l d1 d2 r1→RB l d2 d3 r2→RB l d1 d3 (r1++r2))
  (B:Option Addr) (n c:Nat) (x rest:List UInt8)
  (hK:K d O w) (hJ:J m rs A w) (hd:∀ n,A n→¬ O n) (hm0:m≤500) (hlen:rs.length≤10000)
  (hfar:∀ b,b=bm∨b=M∨b=be→¬ O b∧¬ A b∧b≠g) (hgo:¬ O g∧¬ A g)
  (hm:w.cell? ⟨bm,0,none⟩=some (.pointer (some ⟨M,0,none⟩))) (hM:w.cell? ⟨M,0,none⟩=some (.pointer (some ⟨Bc,0,none⟩))) (hMg1:w.cell? ⟨M,4,none⟩=some (.pointer (some ⟨g,0,none⟩)))
  (hk:w.cell? ⟨be,0,none⟩=some (.int .i64 0)) (hsrc:w.cell? ⟨be,1,none⟩=some (.int .i64 (3:Nat))) (hB:w.cell? ⟨be,2,none⟩=some (.slice B n c))
  (hrd:Reads w w.heap.size 1 B n (x.map bv)) (hn:n≤120) (hst:Strm w n0 g rest) (hrl:rest.length≤40) :
  CallsIn Fence.wide 2 Tryz.prog 31 #[.func (.yield L) #[] #[],.pointer (some ⟨be,0,none⟩),.pointer (some ⟨bm,0,none⟩)] w fun e w'=>(∃ v,e=.returned v)∧WentB K (fun rs A w=>∃ m',m'≤m+160∧J m' rs A w) (RB 3) d rs O A g w w':=by
 have hst0:Strm w.drew n0 g rest:=hst
 have hrd0:Reads w.drew w.heap.size 1 B n (x.map bv):=hrd
 have hT:=hst0.take w.heap.size B n c x hrd0 (Nat.le_refl _) (by omega) (by omega)
 have hK0:=hC.keep _ _ _ _ hK (Same.drew O w)
 have hJ0:=hR.keep _ _ _ _ _ hJ (Same.drew A w)
 have hxl:x.length=n:=by simpa using hrd.1
 have hits:=scan_items _ (rest++x) (Nat.le_refl _)
 have hleft:=left_short (rest++x)
 have hmx:Tryz.prog.follows .mixedOrders=true:=by kernel_rfl
 refine callsIn_of_wp Tryz.func31 rfl trivial ?_ rfl
 simp only [Tryz.ntmps31,List.size_toArray,List.length_cons,List.length_nil,Nat.reduceAdd,Nat.reduceSub,Array.replicate_succ,Array.replicate_zero,List.push_toArray,List.append_toArray,List.nil_append,List.cons_append]
 gi_wp2
 rename_i Q0 K0 hK00
 have key:∀ (w1:World) (A':Option Addr) (k' c':Nat),OwnI w1 w.drew.heap.size (g5 w1 w.drew.heap.size) A' k' c' (scan (rest++x)).fst→Strm w1 w.drew.heap.size g (scan (rest++x)).snd→w.drew.grownBy w1 (some g) →
   K0 { tmps:=#[.func (.yield L) #[] #[],.pointer (some ⟨be,0,none⟩),.pointer (some ⟨bm,0,none⟩),undef,undef,undef,.pointer (some ⟨be,0,none⟩),.int .i64 0,.bool true,.bool true,.pointer (some ⟨be,1,none⟩),.int .i64 3,.bool false,.bool false,.pointer (some ⟨be,1,none⟩),.int .i64 3,.bool false,.bool false,.pointer (some ⟨M,0,none⟩),.pointer (some ⟨be,1,none⟩),.int .i64 3,.int .i64 2,.pointer (some ⟨M,0,none⟩),.pointer (some ⟨M,2,none⟩),.pointer (some ⟨M,4,none⟩),.pointer (some ⟨g,0,none⟩),.pointer (some ⟨be,2,none⟩),.slice B n c,.slice A' k' c',.int .i64 (k':Nat),.int .i64 0,undef,undef,undef,undef,undef,undef,undef,undef,undef,undef,undef,undef,undef,undef,undef,undef,undef,undef,undef,undef,undef,undef,undef,undef,undef,undef,undef,undef,undef,undef,undef,undef,undef,undef,undef,undef,undef,undef,undef,undef,undef,undef,undef,undef,undef,undef],defers:=[] } w1:=by
  intro w1 A' k' c' hOI hst' hgr
  have hK1:=hC.keep _ _ _ _ hK0 (grown_same hgr (fun n hn=>hC.lt _ _ _ n hK0 hn) hgo.1)
  have hJ1:=hR.keep _ _ _ _ _ hJ0 (grown_same hgr (fun n hn=>hR.lt _ _ _ _ n hJ0 hn) hgo.2)
  have hkl:k'=(scan (rest++x)).1.length:=hOI.length.symm
  have hkl2:k'≤160:=by have:=hits.2; simp only [List.length_append] at this; omega
  have hsz1:w.heap.size≤w1.heap.size:=hgr.size
  have hc1:∀ b,b=bm∨b=M∨b=be→∀ o v,w.cell? ⟨b,o,none⟩=some v→w1.cell? ⟨b,o,none⟩=some v:=fun b hb o v hv=>by
   rw [← hv]
   exact World.cell?_of_block (hgr.block b (cell_lt hv) (fun e=>(hfar b hb).2.2 (by cases e; rfl)))
  refine hK00 _ _ ?_
  gi_wp2
  gi_loopw [30] (fun i wr=>∃ k:Nat,k≤k'∧i=.int .i64 k∧BInv K J m (RB 3) d rs O A w1 k wr)
   (fun i _=>k' - (intOf i).toNat)
  case atStart=>exact ⟨0,Nat.zero_le _,rfl,d,[],O,A,hK1,by simpa using hJ1,hRB0 _ _,by simp,hd,fun n h=>.inl h,fun n h=>.inl h,Frm.refl _ _⟩
  case round =>
   obtain ⟨k,hk,rfl,d1,rs1,O1,A1,hKr,hJr,hRr,hlr,hdr,hOr,hAr,hFr⟩:=hrel
   have hcr:∀ b,b=bm∨b=M∨b=be→∀ o v,w.cell? ⟨b,o,none⟩=some v→wr.cell? ⟨b,o,none⟩=some v:=fun b hb o v hv=>by
    rw [← hc1 b hb o v hv]
    have:=cell_lt hv
    exact World.cell?_of_block (hFr.same b (by simp only at this; omega) (fun h=>h.elim (hfar b hb).1 (hfar b hb).2.1))
   have hnew:∀ n,w.drew.heap.size≤n→n<w1.heap.size→wr.heap[n]?=w1.heap[n]?∧¬ O1 n:=fun n h1 h2=>by
    have h3:¬ O n:=fun h=>by have:=hC.lt _ _ _ _ hK h; have h2:w.drew.heap.size=w.heap.size:=rfl; omega
    have h4:¬ A n:=fun h=>by have:=hR.lt _ _ _ _ _ hJ h; have h2:w.drew.heap.size=w.heap.size:=rfl; omega
    refine ⟨hFr.same n h2 (fun h=>h.elim h3 h4),fun h=>?_⟩
    rcases hOr n h with h | h
    ·exact h3 h
    ·omega
   by_cases hlt:k<k'
   ·obtain ⟨gi,rfl,hg1,hg2,cd,Ab,kb,cb,c1,c2,hcd,hkb,hcb,hbr,hbb⟩:=item_at hOI hlt hits.1
    have hge:=(hnew gi hg2 hg1).1
    have c1':wr.cell? ⟨gi,k*2,none⟩=some (.int .i64 cd):=(World.cell?_of_block hge).trans c1
    have c2':wr.cell? ⟨gi,k*2+1,none⟩=some (.slice Ab kb cb):=(World.cell?_of_block hge).trans c2
    have hmr:=hcr bm (.inl rfl) _ _ hm
    have hMr:=hcr M (.inr (.inl rfl)) _ _ hM
    have hsr:=hcr be (.inr (.inr rfl)) _ _ hsrc
    have hl1:bm<wr.heap.size:=cell_lt hmr
    have hl2:M<wr.heap.size:=cell_lt hMr
    have hl3:be<wr.heap.size:=cell_lt hsr
    have hl4:gi<wr.heap.size:=Nat.lt_of_lt_of_le hg1 hFr.size
    obtain ⟨wa,hwa⟩:∃ wa,wa=(wr.alloc (Obj.cells #[Value.int IntKind.i64 cd,Value.slice Ab kb cb] 93)).drew:=⟨_,rfl⟩
    have hFa:Frm (fun _=>False) wr wa:=by rw [hwa]; exact frm_alloc wr _
    have hKa:K d1 O1 wa:=hC.keep _ _ _ _ hKr (hFa.none_keeps fun n hn=>hC.lt _ _ _ n hKr hn)
    have hJa:J (m+k) (rs++rs1) A1 wa:=hR.keep _ _ _ _ _ hJr (hFa.none_keeps fun n hn=>hR.lt _ _ _ _ n hJr hn)
    have hbra:BRow wa Ab kb:=hbr.keep (Nat.le_trans hFr.size hFa.size) fun y hy=>by
     have hlt1:=hbr.2 y hy
     rw [hFa.same _ (Nat.lt_of_lt_of_le hlt1 hFr.size) (fun h=>h)]
     exact (hnew _ (hbb y hy) hlt1).1
    have hI:=hC.item d1 O1 wa 3 cd Ab kb cb hKa (by omega) (by omega) (by omega) (by omega) hkb hcb hbra (fun y hy=>(hnew _ (hbb y hy) (hbr.2 y hy)).2)
    have hlen1:(rs++rs1).length≤100000:=by simp only [List.length_append]; omega
    have hI2:Calls Tryz.prog 33 #[.pointer (some ⟨Bc,0,none⟩),.int .i64 (3:Nat),.agg #[.int .i64 cd,.slice Ab kb cb]] wa fun e w2=>∃ t,e=.returned t∧∃ d2 rs2,K d2 (grow O1 wa w2) w2∧Frm O1 wa w2∧ToldV mo (grow O1 wa w2) w2 t rs2∧RB 3 d1 d2 rs2 :=
     hI.mono fun e w2 ⟨d2,t,rs2,h1,h2,h3,h4,h5⟩=>⟨t,h1,d2,rs2,h2,h3,h4,h5⟩
    have hY:∀ t w2,(∃ d2 rs2,K d2 (grow O1 wa w2) w2∧Frm O1 wa w2∧ToldV mo (grow O1 wa w2) w2 t rs2∧RB 3 d1 d2 rs2)→YieldAt Fence.wide 1 Tryz.prog L #[t] w2 fun e w3=>e=.returned (.bool true)∧BInv K J m (RB 3) d rs O A w1 (k+1) w3:=by
     rintro t w2 ⟨d2,rs2,hK2,hF2,hTo,hRel⟩
     have hJ2:=hR.keep _ _ _ _ _ hJa (hF2.keeps (fun n hn=>hR.lt _ _ _ _ n hJa hn) hdr)
     refine (hR.round _ _ _ _ _ t rs2 hJ2 (by omega) hlen1 hTo (fun n hn hg=>by rcases hg with hg | hg; exact hdr n hn hg; have:=hR.lt _ _ _ _ n hJa hn; omega)).mono ?_
     rintro e w3 ⟨rfl,hJ3,hF3⟩
     obtain ⟨d',rs',O',A',q1,q2,q3,q4,q5,q6,q7,q8⟩:=loop_step hC (J':=J (m+k+1)) (fun rs A w n h1 h2=>hR.lt (m+k) rs A w n h1 h2) hRBt hJa hRr hdr hOr hAr hFr hFa hK2 hF2 hRel hJ3 hF3
     have:=told_len hTo
     exact ⟨rfl,d',rs',O',A',q1,q2,q3,by omega,q5,q6,q7,q8⟩
    gi_wp2
    rename_i K1 hK11
    refine wpIn_mono (reg6_ok (M:=M) (QN:=K1) hmx ?_ ?_ ?_ ?_ ?_ (by rw [← hwa]; exact hI2) hY ?_) (fun e a w h=>by cases e <;> first | exact h | exact h.elim)
    ·rw [← hwa]; exact (hFa.cell (a:=⟨bm,0,none⟩) hl1 (fun h=>h)).trans hmr
    ·rw [← hwa]; exact (hFa.cell (a:=⟨M,0,none⟩) hl2 (fun h=>h)).trans hMr
    ·rw [← hwa]; exact (hFa.cell (a:=⟨be,1,none⟩) hl3 (fun h=>h)).trans hsr
    ·exact cell_new wr _ 93 (0,0) 0 _ rfl
    ·exact cell_new wr _ 93 (0,0) 1 _ rfl
    ·intro t w3 hP2
     refine hK11 _ _ ?_
     gi_wp2
     exact ⟨⟨k+1,by omega,rfl,hP2⟩,by show k' - ((k:Int)+1).toNat<k' - ((k:Int)).toNat; omega⟩
   ·gi_wp2
    go_end0
    exact ⟨⟨_,rfl⟩,wentB_end (fun n hn=>hC.lt _ _ _ n hK hn) (fun n hn=>hR.lt _ _ _ _ n hJ hn) hst.1 hgo hgr hst' (by omega) hKr ⟨m+k,by omega,hJr⟩ hRr hlr (by omega) hdr hOr hAr hFr⟩
 gi_region_with_o (refine ⟨trivial,?_⟩; refine (callsIn_wide.2 hT).mono ?_; rintro e w1 ⟨A',k',c',rfl,hOI,hst',hgr⟩)
 all_goals exact key _ _ _ _ hOI hst' hgr
end Mc
end
section
namespace Mc
open Go.RowKit Go.Shelf
open SE (Rc rcCells i64)
open Crc Fr St
attribute [local go_sem] Oper.semAt_some
set_option maxHeartbeats 4000000
theorem wpListIn_append_any {F:Fence} {nF:Nat} {P:Program} {ops:Array Oper} {rest:List Oper} {o:Oper} {a:Act} {w:World} {Q:Exit→Act→World→Prop} (hgd:o.guard=none) (s x:Operand) (t:TypeId)
  (ho:o.op=.call { callee:=.builtin .append,args:=#[s,x],argTypes:=#[t,t] })
  (base:Nat) (e:TypeId) (i:TypeInfo) (z:Value) (size bytes:Nat) (ht:P.underlying t=some (.slice e)) (hi:P.info? e=some i) (hz:i.zero=some z)
  (hsize:i.size=size) (hby:i.bytes=bytes) (hzs:z.cells.size=size) (hsz:0<size)
  (v:Value) (n:Nat) (xs:List Value) (hs:a.eval s=v) (hown:w.ownsRow base e size v n xs)
  (B:Nat) (A:Option Addr) (m c:Nat) (news:List Value) (hx:a.eval x=.slice A m c) (hr:Reads w B size A m news) (h1:∀ u∈news,u.oneCell'=true)
  (h63:n+m≤maxLen) (hbytes:(n+m)*bytes≤140737488355328) (hbase:base≤w.heap.size)
  (h:∀ v' w',w'.ownsRow base e size v' (n+m) (xs++news)→w.grownBy w' v.ownBlock→(v'.ownBlock=v.ownBlock∨v'.ownBlock=some w.heap.size)→wpListIn F nF P ops Q rest (a.put o.dst v') w') :
  wpListIn F nF P ops Q (o::rest) a w:=by
 refine wpListIn_plain hgd fun K hK=>?_
 obtain ⟨v',w',hrun,h2,h3,h4⟩:=run_append_any (P:=P) w base t o.type e i z size bytes ht hi hz hsize hby hzs hsz v n xs hown B A m c news hr h1 h63 hbytes hbase
 unfold Oper.wpIn
 refine ⟨by simp [Oper.about,ho,resolve,Target.leads,Sem.run_pure],?_⟩
 rw [Oper.semAt_plain F _ _ (by rw [ho]; intro c hc'; cases hc')]
 simp [execOp,ho,resolve,invoke,builtin,hs,hx,hrun,Result.andThen]
 exact hK _ _ (h v' w' h2 h3 h4)
noncomputable def asgOf:Code→Code
 | .block _ b=>asgOf b
 | .seq a b=>match asgOf a with
  | .skip=>asgOf b
  | c=>c
 | .rangeFunc _ _ a _=>a
 | _=>.skip
noncomputable def asg10:Code:=asgOf (bodyOf Tryz.f10)
noncomputable def findB (i:Nat):Code→Code
 | .block id b=>bif Nat.beq id i then .block id b else findB i b
 | .seq a b=>match findB i a with
  | .skip=>findB i b
  | c=>c
 | .cond _ a b=>match findB i a with
  | .skip=>findB i b
  | c=>c
 | .rangeFunc _ _ a b=>match findB i a with
  | .skip=>findB i b
  | c=>c
 | .loop b=>findB i b
 | _=>.skip
noncomputable def bod10:Code:=findB 1 (bodyOf Tryz.f10)
structure Wr (w w':World) (b:Nat) (cs:Array Value) (t:Nat):Prop where
 cell:w'.heap[b]?=some (.cells cs t (0,0))
 same:∀ n,n≠b→w'.heap[n]?=w.heap[n]?
 size:w'.heap.size=w.heap.size
 os:w'.os=w.os
 tape:w'.tape=w.tape
 output:w'.output=w.output
theorem setRow_wr {w:World} {b t:Nat} {old cs:Array Value} (hg:w.heap[b]?=some (.cells old t (0,0))):Wr w (w.setRow b cs) b cs t :=
 ⟨setRow_heap w b old cs t _ hg,fun n hn=>by simp [World.setRow,Array.getElem?_modify,Ne.symm hn],by simp [World.setRow],rfl,rfl,rfl⟩
variable {F:Fence} {nF:Nat} {P:Program} {ops:Array Oper} {rest:List Oper} {o:Oper} {a:Act} {w:World} {Q:Exit→Act→World→Prop}
theorem in_val (hgd:o.guard=none) (hnd:∀ c,o.op≠.defer c) (hab:o.about P w a.eval=none) {v:Value} {w':World} (hrun:(execOp a.eval o).run P w=.ok (.value v) w') (h:wpListIn F nF P ops Q rest (a.put o.dst v) w'):wpListIn F nF P ops Q (o::rest) a w:=by
 refine wpListIn_plain hgd fun K hK=>?_
 unfold Oper.wpIn
 refine ⟨(by rw [hab]; intro f hf; cases hf),?_⟩
 rw [Oper.semAt_plain F _ _ hnd,hrun]
 exact hK _ _ h
theorem in_unit (hgd:o.guard=none) (hnd:∀ c,o.op≠.defer c) (hab:o.about P w a.eval=none) {w':World} (hrun:(execOp a.eval o).run P w=.ok .skip w') (h:wpListIn F nF P ops Q rest (a.put o.dst undef) w'):wpListIn F nF P ops Q (o::rest) a w:=by
 refine wpListIn_plain hgd fun K hK=>?_
 unfold Oper.wpIn
 refine ⟨(by rw [hab]; intro f hf; cases hf),?_⟩
 rw [Oper.semAt_plain F _ _ hnd,hrun]
 exact hK _ _ h
theorem in_load {b off n t ty:Nat} {x:Operand} {cs:Array Value} {fr:Nat×Nat} {d:TypeDesc} (hgd:o.guard=none) (ho:o.op=.load ty x) (hx:a.eval x=.pointer (some ⟨b,off,none⟩)) (hg:w.heap[b]?=some (.cells cs t fr))
  (hu:P.underlying ty=some d) (hd:d.isRow=true) (hi:(P.info? ty).map (·.size)=some n) (hle:off+n≤cs.size) (h:wpListIn F nF P ops Q rest (a.put o.dst (.agg ((cs.toList.drop off).take n).toArray)) w):wpListIn F nF P ops Q (o::rest) a w:=by
 have hlen:((cs.toList.drop off).take n).length=n:=by
  rw [List.length_take,List.length_drop,Array.length_toList]
  omega
 refine in_val hgd (by rw [ho]; intro c hc; cases hc) (by simp [Oper.about,ho]) (v:=.agg ((cs.toList.drop off).take n).toArray) (w':=w) ?_ h
 have:=run_loadAt_mid (P:=P) w b off ty ((cs.toList.drop off).take n) d (fun j v hv=>by
  rw [SE.cell_at hg]
  rw [List.getElem?_take] at hv
  split at hv
  ·rw [List.getElem?_drop] at hv; simpa using hv
  ·cases hv) hu hd (by rw [hlen]; exact hi)
 simp only [execOp,ho,hx,Sem.run_bind,this,Result.andThen_ok,Sem.run_pure]
theorem in_load1 {b off t ty:Nat} {x:Operand} {cs:Array Value} {fr:Nat×Nat} {d:TypeDesc} {v:Value} (hgd:o.guard=none) (ho:o.op=.load ty x) (hx:a.eval x=.pointer (some ⟨b,off,none⟩)) (hg:w.heap[b]?=some (.cells cs t fr))
  (hu:P.underlying ty=some d) (hd:d.isRow=false) (hv:cs[off]?=some v) (h:wpListIn F nF P ops Q rest (a.put o.dst v) w):wpListIn F nF P ops Q (o::rest) a w:=by
 refine in_val hgd (by rw [ho]; intro c hc; cases hc) (by simp [Oper.about,ho]) (v:=v) (w':=w) ?_ h
 have hc:w.cell? ⟨b,off,none⟩=some v:=by rw [SE.cell_at hg]; exact hv
 have hagg:(isAgg ty).run P w=.ok false w:=by
  unfold isAgg
  rw [Sem.run_bind,run_underlying hu w]
  cases d <;> simp_all
 have hl:(load ⟨b,off,none⟩).run P w=.ok v w:=by
  simp [go_sem,hc]
 simp [execOp,ho,hx,Instr.loadAt,Instr.sureAddr,loadVar,Sem.run_bind,hagg,hc,Result.andThen]
def spl (l:List Value) (off:Nat) (xs:List Value):List Value:=l.take off++xs++l.drop (off+xs.length)
theorem spl_len {l xs:List Value} {off:Nat} (h:off+xs.length≤l.length):(spl l off xs).length=l.length:=by
 simp only [spl,List.length_append,List.length_take,List.length_drop]
 omega
theorem spl_get {l xs:List Value} {off:Nat} (h:off+xs.length≤l.length) (i:Nat):(spl l off xs)[i]?=if i<off then l[i]? else if i<off+xs.length then xs[i - off]? else l[i]?:=by
 have hl:(l.take off).length=off:=by rw [List.length_take]; omega
 unfold spl
 rw [List.append_assoc]
 by_cases h1:i<off
 ·rw [if_pos h1,List.getElem?_append_left (by omega),List.getElem?_take,if_pos h1]
 ·rw [if_neg h1,List.getElem?_append_right (by omega),hl]
  by_cases h2:i<off+xs.length
  ·rw [if_pos h2,List.getElem?_append_left (by omega)]
  ·rw [if_neg h2,List.getElem?_append_right (by omega),List.getElem?_drop]
   congr 1
   omega
theorem spl_mem {l xs:List Value} {off:Nat} {v:Value} (h:v∈spl l off xs):v∈l∨v∈xs:=by
 unfold spl at h
 rcases List.mem_append.1 h with h | h
 ·rcases List.mem_append.1 h with h | h
  ·exact .inl (List.mem_of_mem_take h)
  ·exact .inr h
 ·exact .inl (List.mem_of_mem_drop h)
theorem in_store {b off t ty:Nat} {p x:Operand} {old xs:Array Value} {v:Value} (hgd:o.guard=none) (ho:o.op=.store ty p x) (hp:a.eval p=.pointer (some ⟨b,off,none⟩)) (hx:a.eval x=v) (hxs:v.cells=xs) (hone:∀ u∈xs.toList,u.oneCell'=true)
  (hi:(P.info? ty).map (·.size)=some xs.size) (hg:w.heap[b]?=some (.cells old t (0,0))) (hle:off+xs.size≤old.size)
  (h:∀ w',Wr w w' b (spl old.toList off xs.toList).toArray t→wpListIn F nF P ops Q rest (a.put o.dst undef) w'):wpListIn F nF P ops Q (o::rest) a w:=by
 have hst:=run_storeCells_at (P:=P) b off t xs.toList 0 old w hg (by rw [Array.length_toList]; omega) hone
 simp only [Nat.add_zero,Array.length_toList] at hst
 refine in_unit hgd (by rw [ho]; intro c hc; cases hc) (by simp [Oper.about,ho]) (w':=w.setRow b (old.toList.take off++xs.toList++old.toList.drop (off+xs.size)).toArray) ?_ (h _ (by have:=setRow_wr (cs:=(old.toList.take off++xs.toList++old.toList.drop (off+xs.size)).toArray) hg; simpa only [spl,Array.length_toList] using this))
 cases hq:P.info? ty with
 | none=>rw [hq] at hi; cases hi
 | some i =>
  have hs:i.size=xs.size:=by simpa [hq] using hi
  simp only [execOp,ho,hp,hx,Instr.storeAt,Instr.sureAddr,storeVar,Sem.run_bind,Sem.run_pure,Result.andThen_ok,SE.size_run hq,hxs]
  rw [if_neg (by simp [hs])]
  simp [hst,Sem.run_bind,Result.andThen]
theorem in_field {b off off' ty f:Nat} {x:Operand} (hgd:o.guard=none) (ho:o.op=.fieldAddr ty x f) (hx:a.eval x=.pointer (some ⟨b,off,none⟩)) (hf:(Instr.fieldAt ty (.pointer (some ⟨b,off,none⟩)) f).run P w=.ok (.pointer (some ⟨b,off',none⟩)) w)
  (h:wpListIn F nF P ops Q rest (a.put o.dst (.pointer (some ⟨b,off',none⟩))) w):wpListIn F nF P ops Q (o::rest) a w:=by
 refine in_val hgd (by rw [ho]; intro c hc; cases hc) (by simp [Oper.about,ho]) (v:=.pointer (some ⟨b,off',none⟩)) (w':=w) ?_ h
 simp only [execOp,ho,hx,Sem.run_bind,hf,Result.andThen_ok,Sem.run_pure]
theorem in_alloc {ty:Nat} {i:TypeInfo} {z:Value} (hgd:o.guard=none) (ho:o.op=.alloc ty) (hi:P.info? ty=some i) (hz:i.zero=some z) (h:wpListIn F nF P ops Q rest (a.put o.dst (.pointer (some ⟨w.heap.size,0,none⟩))) (w.alloc (.cells z.cells ty))):wpListIn F nF P ops Q (o::rest) a w:=by
 refine in_val hgd (by rw [ho]; intro c hc; cases hc) (by simp [Oper.about,ho]) (v:=.pointer (some ⟨w.heap.size,0,none⟩)) (w':=w.alloc (.cells z.cells ty)) ?_ h
 simp only [execOp,ho,Sem.run_bind,SE.alloc_run hi hz,Result.andThen_ok,Sem.run_pure]
theorem f43 (w:World) (b:Nat):(Instr.fieldAt 43 (.pointer (some ⟨b,0,none⟩)) 1).run Tryz.prog w=.ok (.pointer (some ⟨b,12,none⟩)) w:=by kernel_rfl
theorem f43_0 (w:World) (b:Nat):(Instr.fieldAt 43 (.pointer (some ⟨b,0,none⟩)) 0).run Tryz.prog w=.ok (.pointer (some ⟨b,0,none⟩)) w:=by kernel_rfl
theorem f43_2 (w:World) (b:Nat):(Instr.fieldAt 43 (.pointer (some ⟨b,0,none⟩)) 2).run Tryz.prog w=.ok (.pointer (some ⟨b,13,none⟩)) w:=by kernel_rfl
theorem f43_3 (w:World) (b:Nat):(Instr.fieldAt 43 (.pointer (some ⟨b,0,none⟩)) 3).run Tryz.prog w=.ok (.pointer (some ⟨b,14,none⟩)) w:=by kernel_rfl
theorem told_info:(Tryz.prog.info? 43).map (·.size)=some 46:=by kernel_rfl
theorem act_info:(Tryz.prog.info? 38).map (·.size)=some 12:=by kernel_rfl
theorem head_info:(Tryz.prog.info? 41).map (·.size)=some 32:=by kernel_rfl
theorem sl39_info:(Tryz.prog.info? 39).map (·.size)=some 1:=by kernel_rfl
theorem sl40_info:(Tryz.prog.info? 40).map (·.size)=some 1:=by kernel_rfl
theorem sent_info:(Tryz.prog.info? 252).map (fun i=>(i.zero,i.size,i.bytes))=some (some (.agg #[.int .i64 0,.slice none 0 0]),2,32):=by kernel_rfl
theorem rec_info:(Tryz.prog.info? 60).map (fun i=>(i.zero,i.size,i.bytes))=some (some (.agg #[.int .i64 0,.int .i64 0,.int .i64 0,.int .i64 0,.int .i64 0,.int .i64 0]),6,48):=by kernel_rfl
theorem told_zero:∃ i z,Tryz.prog.info? 43=some i∧i.zero=some z∧z.cells.size=46:=by
 have h:(Tryz.prog.info? 43).map (fun i=>(i.zero.map fun z=>z.cells.size))=some (some 46):=by kernel_rfl
 cases hi:Tryz.prog.info? 43 with
 | none=>rw [hi] at h; cases h
 | some i =>
  rw [hi] at h
  simp only [Option.map_some,Option.some.injEq] at h
  cases hz:i.zero with
  | none=>rw [hz] at h; cases h
  | some z=>rw [hz] at h; exact ⟨i,z,rfl,hz,by simpa using h⟩
theorem ownsRow_keep {w w':World} {base e size n:Nat} {v:Value} {xs:List Value} (h:w.ownsRow base e size v n xs) (hs:∀ g,v.ownBlock=some g→w'.heap[g]?=w.heap[g]?):w'.ownsRow base e size v n xs:=by
 obtain ⟨h1,h2⟩:=h
 refine ⟨h1,?_⟩
 rcases h2 with h2 | ⟨g,cap,cur,hv,hb,hh,r⟩
 ·exact .inl h2
 ·subst hv
  exact .inr ⟨g,cap,cur,rfl,hb,(hs g rfl).trans hh,r⟩
structure StepJ (mo:Int) (L b5 base:Nat) (rc:Loop) (m:Nat) (rs:List Rc) (A:Foot) (w:World):Prop where
 ex:∃ (cs:Array Value) (v12 v13:Value) (n:Nat) (xs:List Value),w.heap[b5]?=some (.cells cs 43 (0,0))∧cs.size=46∧(∀ v∈cs.toList,v.oneCell'=true)∧ActOk mo cs∧cs[12]?=some v12∧cs[13]?=some v13 ∧
  w.ownsRow base 252 2 v12 n xs∧(∀ u∈xs,u.oneCell'=true)∧n≤50*m∧w.ownsRow base 60 6 v13 rs.length (rcCells rs)∧(∀ g,v12.ownBlock=some g→A g)∧(∀ g,v13.ownBlock=some g→A g)∧(∀ g,v12.ownBlock=some g→v13.ownBlock≠some g)
 lp:w.heap[L]?=some (.loop rc)
 df:w.heap[L - 1]?=some (.deferred (some []))
 src:∀ r∈rs,0≤r.src∧r.src≤4
 rlen:rs.length≤50*m
 ab:A b5
 al:A L
 ad:A (L - 1)
 lt:∀ n,A n→n<w.heap.size
 fb:b5<base∧L<base∧b5≠L∧b5≠L - 1∧1≤L
 sz:base≤w.heap.size
variable {mo:Int} {L b5 base:Nat} {rc:Loop}
theorem StepJ.keep {m:Nat} {rs:List Rc} {A:Foot} {w w':World} (h:StepJ mo L b5 base rc m rs A w) (hS:Same A w w'):StepJ mo L b5 base rc m rs A w':=by
 obtain ⟨⟨cs,v12,v13,n,xs,h1,h2,h3,h4,h5,h6,h7,h8,h9,h10,h11,h12,h13⟩,lp,df,src,rlen,ab,al,ad,lt,fb,sz⟩:=h
 exact ⟨⟨cs,v12,v13,n,xs,(hS.same _ ab).trans h1,h2,h3,h4,h5,h6,ownsRow_keep h7 (fun g hg=>hS.same g (h11 g hg)),h8,h9,ownsRow_keep h10 (fun g hg=>hS.same g (h12 g hg)),h11,h12,h13⟩,
  (hS.same _ al).trans lp,(hS.same _ ad).trans df,src,rlen,ab,al,ad,fun n hn=>Nat.lt_of_lt_of_le (lt n hn) hS.size,fb,Nat.le_trans sz hS.size⟩
theorem own_cells {w:World} {base e size n:Nat} {v:Value} {xs:List Value} (h:w.ownsRow base e size v n xs):v.cells=#[v]∧v.oneCell'=true:=by
 rcases h.2 with ⟨rfl,_⟩ | ⟨g,cap,cur,rfl,_⟩ <;> exact ⟨rfl,rfl⟩
theorem own_lt {w:World} {base e size n:Nat} {v:Value} {xs:List Value} (h:w.ownsRow base e size v n xs) {g:Nat} (hg:v.ownBlock=some g):base≤g∧g<w.heap.size:=by
 rcases h.2 with ⟨rfl,_⟩ | ⟨g',cap,cur,rfl,hb,hh,_⟩
 ·cases hg
 ·cases hg
  exact ⟨hb,(Array.getElem?_eq_some_iff.1 hh).1⟩
theorem reads_keep {w w':World} {B size n:Nat} {A:Option Addr} {xs:List Value} (h:Reads w B size A n xs) (hs:∀ x,A=some x→x.block<B→w'.heap[x.block]?=w.heap[x.block]?):Reads w' B size A n xs:=by
 refine ⟨h.1,fun hn=>?_⟩
 obtain ⟨ad,h1,h2,h3⟩:=h.2 hn
 refine ⟨ad,h1,h2,fun j u hj=>?_⟩
 rw [← h3 j u hj]
 exact World.cell?_of_block (by have:=hs ad h1 h2; unfold Addr.add; split <;> exact this)
theorem rcCells_one:∀ (l:List Rc),∀ u∈rcCells l,u.oneCell'=true
 | [],u,h=>by cases h
 | r::l,u,h=>by
  simp only [rcCells] at h
  rcases List.mem_append.1 h with h | h
  ·simp only [Rc.cells,List.mem_cons,List.not_mem_nil,or_false] at h
   rcases h with rfl | rfl | rfl | rfl | rfl | rfl <;> rfl
  ·exact rcCells_one l u h
theorem rcCells_app:∀ (l m:List Rc),rcCells (l++m)=rcCells l++rcCells m
 | [],m=>rfl
 | r::l,m=>by simp only [List.cons_append,rcCells,rcCells_app l m,List.append_assoc]
set_option maxHeartbeats 8000000 in
theorem step_round {fn:FuncId} {x0 x1 x2 x3 x4 x6 x7 x8 x9 x10 x11 x12 x13 x14 x15 x16 x17 x18 x19 x20 x21 x22 x23 x24 x25 x26 x27 x28 x29 x30 x31 x32 x33 x34 x35 x36 x37 x38 x39 x40 x41:Value}:RoundI mo Fence.wide 2 L (StepJ mo L b5 base (Rg.recOf fn #[x0,x1,x2,x3,x4,.pointer (some ⟨b5,0,none⟩),x6,x7,x8,x9,x10,x11,x12,x13,x14,x15,x16,x17,x18,x19,x20,x21,x22,x23,x24,x25,x26,x27,x28,x29,x30,x31,x32,x33,x34,x35,x36,x37,x38,x39,x40,x41] #[22] asg10 bod10 (L - 1) .ready none)) where
 keep:=fun m rs A w w' h hS=>h.keep hS
 lt:=fun m rs A w n h=>h.lt n
 round:=by
  intro m rs A O w t rs' h hm hlen hT hd
  obtain ⟨⟨cs,v12,v13,n,xs,h1,h2,h3,h4,h5,h6,h7,h8,h9,h10,h11,h12,h13⟩,lp,df,src,rlen,ab,al,ad,lt,fb,sz⟩:=h
  obtain ⟨ts,sb,sl,sc,rb,rl,rcp,ss,rfl,ht2,ht3,ht4,ht5,ht6,hsl,hrl,hrl2,hsr,hs1,hrr,hsrc,hob,hor⟩:=hT.ex
  obtain ⟨i43,z43,hi43,hz43,hzs⟩:=told_zero
  have hy:=run_yield (P:=Tryz.prog) (args:=#[.agg ts]) lp rfl
  refine ⟨_,_,_,_,hy,roundIn_of_wpIn trivial ?_⟩
  show asg10.wpIn _ _ _ _ { tmps:=(#[22].zip #[Value.agg ts]).foldl (fun tmps (t,a)=>tmps.setIfInBounds t a) #[x0,x1,x2,x3,x4,.pointer (some ⟨b5,0,none⟩),x6,x7,x8,x9,x10,x11,x12,x13,x14,x15,x16,x17,x18,x19,x20,x21,x22,x23,x24,x25,x26,x27,x28,x29,x30,x31,x32,x33,x34,x35,x36,x37,x38,x39,x40,x41],defers:=[] } _
  have htm:(#[22].zip #[Value.agg ts]).foldl (fun tmps (t,a)=>tmps.setIfInBounds t a) (#[x0,x1,x2,x3,x4,.pointer (some ⟨b5,0,none⟩),x6,x7,x8,x9,x10,x11,x12,x13,x14,x15,x16,x17,x18,x19,x20,x21,x22,x23,x24,x25,x26,x27,x28,x29,x30,x31,x32,x33,x34,x35,x36,x37,x38,x39,x40,x41]:Array Value)=#[x0,x1,x2,x3,x4,.pointer (some ⟨b5,0,none⟩),x6,x7,x8,x9,x10,x11,x12,x13,x14,x15,x16,x17,x18,x19,x20,x21,.agg ts,x23,x24,x25,x26,x27,x28,x29,x30,x31,x32,x33,x34,x35,x36,x37,x38,x39,x40,x41]:=by simp
  rw [htm]
  conv in asg10=>whnf
  refine wpIn_region_lit ?_
  refine in_alloc rfl rfl hi43 hz43 ?_
  simp only [Act.put,List.setIfInBounds_toArray,List.set_cons_succ,List.set_cons_zero]
  have hnew:(w.alloc (.cells z43.cells 43)).heap[w.heap.size]?=some (.cells z43.cells 43 (0,0)):=heap_alloc_new w _
  refine in_store (b:=w.heap.size) (off:=0) (xs:=ts) (v:=.agg ts) rfl rfl rfl rfl rfl ht3 (by rw [ht2]; exact told_info) hnew (by omega) fun w1 hw1=>?_
  simp only [Act.put,List.setIfInBounds_toArray,List.set_cons_succ,List.set_cons_zero]
  refine wpListIn_nil ?_
  have c1:w1.heap[w.heap.size]?=some (.cells ts 43 (0,0)):=by
   have:=hw1.cell
   have e:spl z43.cells.toList 0 ts.toList=ts.toList:=by
    unfold spl
    rw [List.take_zero,List.nil_append,List.drop_eq_nil_of_le (by rw [Array.length_toList,Array.length_toList]; omega),List.append_nil]
   rw [e] at this
   exact this
  have k1:∀ n,n<w.heap.size→w1.heap[n]?=w.heap[n]?:=fun n hn=>(hw1.same n (by omega)).trans (Below.heap_alloc w _ n hn)
  have z1:w1.heap.size=w.heap.size+1:=by rw [hw1.size]; show (w.heap.push _).size=_; rw [Array.size_push]
  have lL:=lt L al
  have lb:=lt b5 ab
  refine ⟨_,run_beginRound ((k1 L lL).trans lp) rfl,?_⟩
  obtain ⟨w2,hw2⟩:∃ w2,w2=w1.putObj L (.loop { (Rg.recOf fn #[x0,x1,x2,x3,x4,.pointer (some ⟨b5,0,none⟩),x6,x7,x8,x9,x10,x11,x12,x13,x14,x15,x16,x17,x18,x19,x20,x21,x22,x23,x24,x25,x26,x27,x28,x29,x30,x31,x32,x33,x34,x35,x36,x37,x38,x39,x40,x41] #[22] asg10 bod10 (L - 1) .ready none) with state:=.busy }):=⟨_,rfl⟩
  have k2:∀ n,n≠L→w2.heap[n]?=w1.heap[n]?:=fun n hn=>by rw [hw2]; exact World.putObj_heap_other hn
  have l2:w2.heap[L]?=some (.loop { (Rg.recOf fn #[x0,x1,x2,x3,x4,.pointer (some ⟨b5,0,none⟩),x6,x7,x8,x9,x10,x11,x12,x13,x14,x15,x16,x17,x18,x19,x20,x21,x22,x23,x24,x25,x26,x27,x28,x29,x30,x31,x32,x33,x34,x35,x36,x37,x38,x39,x40,x41] #[22] asg10 bod10 (L - 1) .ready none) with state:=.busy }):=by rw [hw2]; exact World.putObj_heap_same (by omega)
  have z2:w2.heap.size=w.heap.size+1:=by rw [hw2,← z1]; simp
  have o2:w2.os=w.os∧w2.tape=w.tape∧w2.output=w.output:=by rw [hw2]; exact ⟨hw1.os,hw1.tape,hw1.output⟩
  rw [← hw2]
  show bod10.wpIn _ _ _ _ _ _
  conv in bod10=>whnf
  have b6:w2.heap[w.heap.size]?=some (.cells ts 43 (0,0)):=(k2 _ (by omega)).trans c1
  have bb:w2.heap[b5]?=some (.cells cs 43 (0,0)):=(k2 _ fb.2.2.1).trans ((k1 _ lb).trans h1)
  have kk2:∀ n,n<w.heap.size→n≠L→w2.heap[n]?=w.heap[n]?:=fun n hn hl=>(k2 n hl).trans (k1 n hn)
  refine wpIn_block (wpIn_seq (wpIn_region_lit ?_))
  refine in_field rfl rfl rfl (f43_0 _ _) ?_
  simp only [Act.put,List.setIfInBounds_toArray,List.set_cons_succ,List.set_cons_zero]
  refine in_load (b:=w.heap.size) (off:=0) (n:=12) rfl rfl rfl b6 Tryz.underlying38 rfl act_info (by omega) ?_
  simp only [Act.put,List.setIfInBounds_toArray,List.set_cons_succ,List.set_cons_zero]
  refine in_field rfl rfl rfl (f43_0 _ _) ?_
  simp only [Act.put,List.setIfInBounds_toArray,List.set_cons_succ,List.set_cons_zero]
  have ha:((ts.toList.drop 0).take 12).toArray.size=12:=by simp [ht2]
  refine in_store (b:=b5) (off:=0) (xs:=((ts.toList.drop 0).take 12).toArray) rfl rfl rfl rfl rfl (fun u hu=>ht3 u (by simp only [List.toList_toArray] at hu; exact List.mem_of_mem_drop (List.mem_of_mem_take hu))) (by rw [ha]; exact act_info) bb (by rw [ha]; omega) fun w3 hw3=>?_
  simp only [Act.put,List.setIfInBounds_toArray,List.set_cons_succ,List.set_cons_zero]
  refine wpListIn_nil ?_
  obtain ⟨i5,hi5,hz5,hs5,hy5⟩:=info_parts sent_info
  obtain ⟨i6,hi6,hz6,hs6,hy6⟩:=info_parts rec_info
  obtain ⟨e3,he3⟩:∃ e3,e3=spl cs.toList 0 ((ts.toList.drop 0).take 12).toArray.toList:=⟨_,rfl⟩
  have g3:∀ i,e3[i]?=if i<12 then ts[i]? else cs[i]?:=fun i=>by
   rw [he3,spl_get (by simp [ht2,h2])]
   simp only [Nat.not_lt_zero,if_false,List.toList_toArray,List.drop_zero,List.length_take,Array.length_toList,ht2,Nat.zero_add,Nat.sub_zero,Nat.reduceLeDiff,Nat.min_eq_left]
   by_cases hi:i<12
   ·rw [if_pos (by simpa using hi),if_pos hi,List.getElem?_take,if_pos hi]; simp
   ·rw [if_neg (by simpa using hi),if_neg hi]; simp
  have n3:e3.length=46:=by rw [he3,spl_len (by simp [ht2,h2])]; simpa using h2
  have q3:∀ v∈e3,v.oneCell'=true:=fun v hv=>by
   rw [he3] at hv
   rcases spl_mem hv with hv | hv
   ·exact h3 v hv
   ·exact ht3 v (by simp only [List.toList_toArray] at hv; exact List.mem_of_mem_drop (List.mem_of_mem_take hv))
  rw [← he3] at hw3
  have hc3:=hw3.cell
  have b63:w3.heap[w.heap.size]?=some (.cells ts 43 (0,0)):=(hw3.same _ (by omega)).trans b6
  have kk3:∀ n,n<w.heap.size→n≠L→n≠b5→w3.heap[n]?=w.heap[n]?:=fun n hn hl hb=>(hw3.same n hb).trans (kk2 n hn hl)
  have z3:w3.heap.size=w.heap.size+1:=hw3.size.trans z2
  have own:∀ {g:Nat},A g→base≤g→g<w.heap.size∧g≠L∧g≠b5:=fun {g} hg hb=>⟨lt g hg,by have:=fb; omega,by have:=fb; omega⟩
  have o12:∀ g,v12.ownBlock=some g→g<w.heap.size∧g≠L∧g≠b5:=fun g hg=>own (h11 g hg) (own_lt h7 hg).1
  have o13:∀ g,v13.ownBlock=some g→g<w.heap.size∧g≠L∧g≠b5:=fun g hg=>own (h12 g hg) (own_lt h10 hg).1
  have h73:w3.ownsRow base 252 2 v12 n xs:=ownsRow_keep h7 fun g hg=>kk3 g (o12 g hg).1 (o12 g hg).2.1 (o12 g hg).2.2
  have h103:w3.ownsRow base 60 6 v13 rs.length (rcCells rs):=ownsRow_keep h10 fun g hg=>kk3 g (o13 g hg).1 (o13 g hg).2.1 (o13 g hg).2.2
  have hsr3:Reads w3 w.heap.size 2 sb sl ss:=reads_keep hsr fun x hx hb=>kk3 _ hb (fun e=>hd L al (e ▸ hob x hx)) (fun e=>hd b5 ab (e ▸ hob x hx))
  have hrr3:Reads w3 w.heap.size 6 rb rl (rcCells rs'):=reads_keep hrr fun x hx hb=>kk3 _ hb (fun e=>hd L al (e ▸ hor x hx)) (fun e=>hd b5 ab (e ▸ hor x hx))
  refine wpIn_seq (wpIn_region_lit ?_)
  refine in_field rfl rfl rfl (f43 _ _) ?_
  simp only [Act.put,List.setIfInBounds_toArray,List.set_cons_succ,List.set_cons_zero]
  refine in_load1 (b:=b5) (off:=12) (v:=v12) rfl rfl rfl hc3 Tryz.underlying39 rfl (by rw [List.getElem?_toArray,g3,if_neg (by omega)]; exact h5) ?_
  simp only [Act.put,List.setIfInBounds_toArray,List.set_cons_succ,List.set_cons_zero]
  refine in_field rfl rfl rfl (f43 _ _) ?_
  simp only [Act.put,List.setIfInBounds_toArray,List.set_cons_succ,List.set_cons_zero]
  refine in_load1 (b:=w.heap.size) (off:=12) rfl rfl rfl b63 Tryz.underlying39 rfl ht5 ?_
  simp only [Act.put,List.setIfInBounds_toArray,List.set_cons_succ,List.set_cons_zero]
  refine wpListIn_append_any rfl _ _ 39 rfl base 252 i5 _ 2 32 Tryz.underlying39 hi5 hz5 hs5 hy5 rfl (by omega) v12 n xs rfl h73 w.heap.size sb sl sc ss rfl hsr3 hs1 (by simp only [maxLen]; omega) (by omega) (by omega) fun v5 w5 ho5 hg5 hb5=>?_
  simp only [Act.put,List.setIfInBounds_toArray,List.set_cons_succ,List.set_cons_zero]
  have c5:=own_cells ho5
  have hc5:w5.heap[b5]?=some (.cells e3.toArray 43 (0,0)):=(hg5.block b5 (by omega) (fun e=>(o12 _ e.symm).2.2 rfl)).trans hc3
  refine in_field rfl rfl rfl (f43 _ _) ?_
  simp only [Act.put,List.setIfInBounds_toArray,List.set_cons_succ,List.set_cons_zero]
  refine in_store (b:=b5) (off:=12) (xs:=#[v5]) rfl rfl rfl rfl c5.1 (fun u hu=>by simp only [List.mem_singleton] at hu; rw [hu]; exact c5.2) sl39_info hc5 (by simp [n3]) fun w6 hw6=>?_
  simp only [Act.put,List.setIfInBounds_toArray,List.set_cons_succ,List.set_cons_zero]
  refine wpListIn_nil ?_
  obtain ⟨e6,he6⟩:∃ e6,e6=spl e3 12 [v5]:=⟨_,rfl⟩
  have g6:∀ i,e6[i]?=if i=12 then some v5 else e3[i]?:=fun i=>by
   rw [he6,spl_get (by simp [n3])]
   by_cases h1:i<12
   ·rw [if_pos h1,if_neg (by omega)]
   ·rw [if_neg h1]
    by_cases h2:i=12
    ·subst h2; simp
    ·rw [if_neg (by simp; omega),if_neg h2]
  have n6:e6.length=46:=by rw [he6,spl_len (by simp [n3])]; exact n3
  have q6:∀ v∈e6,v.oneCell'=true:=fun v hv=>by
   rw [he6] at hv
   rcases spl_mem hv with hv | hv
   ·exact q3 v hv
   ·simp only [List.mem_singleton] at hv; rw [hv]; exact c5.2
  have hc6:w6.heap[b5]?=some (.cells e6.toArray 43 (0,0)):=by rw [he6]; exact hw6.cell
  have z5:w.heap.size+1≤w5.heap.size:=by have:=hg5.size; omega
  have z6:w6.heap.size=w5.heap.size:=hw6.size
  have kk6:∀ n,n<w3.heap.size→n≠b5→v12.ownBlock≠some n→w6.heap[n]?=w3.heap[n]?:=fun n hn hb h12=>(hw6.same n hb).trans (hg5.block n hn (fun e=>h12 e.symm))
  have b66:w6.heap[w.heap.size]?=some (.cells ts 43 (0,0)):=(kk6 _ (by omega) (by omega) (fun e=>by have:=(o12 _ e).1; omega)).trans b63
  have h106:w6.ownsRow base 60 6 v13 rs.length (rcCells rs):=ownsRow_keep h103 fun g hg=>kk6 g (by have:=(o13 g hg).1; omega) (o13 g hg).2.2 (fun e=>h13 g e hg)
  have hrr6:Reads w6 w.heap.size 6 rb rl (rcCells rs'):=reads_keep hrr3 fun x hx hb=>kk6 _ (by omega) (fun e=>hd b5 ab (e ▸ hor x hx)) (fun e=>hd _ (h11 _ e) (hor x hx))
  have h56:w6.ownsRow base 252 2 v5 (n+sl) (xs++ss):=ownsRow_keep ho5 fun g hg=>hw6.same g (fun e=>by have:=(own_lt ho5 hg).1; have:=fb.1; omega)
  refine wpIn_seq (wpIn_region_lit ?_)
  refine in_field rfl rfl rfl (f43_2 _ _) ?_
  simp only [Act.put,List.setIfInBounds_toArray,List.set_cons_succ,List.set_cons_zero]
  refine in_load1 (b:=b5) (off:=13) (v:=v13) rfl rfl rfl hc6 Tryz.underlying40 rfl (by rw [List.getElem?_toArray,g6,if_neg (by omega),g3,if_neg (by omega)]; exact h6) ?_
  simp only [Act.put,List.setIfInBounds_toArray,List.set_cons_succ,List.set_cons_zero]
  refine in_field rfl rfl rfl (f43_2 _ _) ?_
  simp only [Act.put,List.setIfInBounds_toArray,List.set_cons_succ,List.set_cons_zero]
  refine in_load1 (b:=w.heap.size) (off:=13) rfl rfl rfl b66 Tryz.underlying40 rfl ht6 ?_
  simp only [Act.put,List.setIfInBounds_toArray,List.set_cons_succ,List.set_cons_zero]
  refine wpListIn_append_any rfl _ _ 40 rfl base 60 i6 _ 6 48 Tryz.underlying40 hi6 hz6 hs6 hy6 rfl (by omega) v13 rs.length (rcCells rs) rfl h106 w.heap.size rb rl rcp (rcCells rs') rfl hrr6 (rcCells_one _) (by simp only [maxLen]; omega) (by omega) (by omega) fun v7 w7 ho7 hg7 hb7=>?_
  simp only [Act.put,List.setIfInBounds_toArray,List.set_cons_succ,List.set_cons_zero]
  have c7:=own_cells ho7
  have hc7:w7.heap[b5]?=some (.cells e6.toArray 43 (0,0)):=(hg7.block b5 (by omega) (fun e=>(o13 _ e.symm).2.2 rfl)).trans hc6
  refine in_field rfl rfl rfl (f43_2 _ _) ?_
  simp only [Act.put,List.setIfInBounds_toArray,List.set_cons_succ,List.set_cons_zero]
  refine in_store (b:=b5) (off:=13) (xs:=#[v7]) rfl rfl rfl rfl c7.1 (fun u hu=>by simp only [List.mem_singleton] at hu; rw [hu]; exact c7.2) sl40_info hc7 (by simp [n6]) fun w8 hw8=>?_
  simp only [Act.put,List.setIfInBounds_toArray,List.set_cons_succ,List.set_cons_zero]
  refine wpListIn_nil ?_
  obtain ⟨e8,he8⟩:∃ e8,e8=spl e6 13 [v7]:=⟨_,rfl⟩
  have g8:∀ i,e8[i]?=if i=13 then some v7 else e6[i]?:=fun i=>by
   rw [he8,spl_get (by simp [n6])]
   by_cases h1:i<13
   ·rw [if_pos h1,if_neg (by omega)]
   ·rw [if_neg h1]
    by_cases h2:i=13
    ·subst h2; simp
    ·rw [if_neg (by simp; omega),if_neg h2]
  have n8:e8.length=46:=by rw [he8,spl_len (by simp [n6])]; exact n6
  have q8:∀ v∈e8,v.oneCell'=true:=fun v hv=>by
   rw [he8] at hv
   rcases spl_mem hv with hv | hv
   ·exact q6 v hv
   ·simp only [List.mem_singleton] at hv; rw [hv]; exact c7.2
  have hc8:w8.heap[b5]?=some (.cells e8.toArray 43 (0,0)):=by rw [he8]; exact hw8.cell
  have z8:w8.heap.size=w7.heap.size:=hw8.size
  have z7:=hg7.size
  have b68:w8.heap[w.heap.size]?=some (.cells ts 43 (0,0)):=(hw8.same _ (by omega)).trans ((hg7.block _ (by omega) (fun e=>by have:=(o13 _ e.symm).1; omega)).trans b66)
  have d57:v13.ownBlock≠v5.ownBlock∨v5.ownBlock=none:=by
   rcases hb5 with e | e
   ·cases hv:v5.ownBlock with
    | none=>exact .inr rfl
    | some g=>exact .inl fun h=>h13 g (by rw [← e]; exact hv) h
   ·exact .inl fun h=>by have:=(o13 _ (h.trans e)).1; omega
  have h58:w8.ownsRow base 252 2 v5 (n+sl) (xs++ss):=ownsRow_keep h56 fun g hg=>by
   have hb:=own_lt h56 hg
   rw [hw8.same g (fun e=>by have:=fb.1; omega)]
   refine hg7.block g hb.2 fun e=>?_
   rcases d57 with h | h
   ·exact h (e.symm.trans hg.symm)
   ·rw [h] at hg; cases hg
  have h78:w8.ownsRow base 60 6 v7 (rs.length+rl) (rcCells rs++rcCells rs'):=ownsRow_keep ho7 fun g hg=>hw8.same g (fun e=>by have:=(own_lt ho7 hg).1; have:=fb.1; omega)
  refine wpIn_region_lit ?_
  refine in_field rfl rfl rfl (f43_3 _ _) ?_
  simp only [Act.put,List.setIfInBounds_toArray,List.set_cons_succ,List.set_cons_zero]
  refine in_load (b:=w.heap.size) (off:=14) (n:=32) rfl rfl rfl b68 Tryz.underlying41 rfl head_info (by omega) ?_
  simp only [Act.put,List.setIfInBounds_toArray,List.set_cons_succ,List.set_cons_zero]
  refine in_field rfl rfl rfl (f43_3 _ _) ?_
  simp only [Act.put,List.setIfInBounds_toArray,List.set_cons_succ,List.set_cons_zero]
  have ha2:((ts.toList.drop 14).take 32).toArray.size=32:=by simp [ht2]
  refine in_store (b:=b5) (off:=14) (xs:=((ts.toList.drop 14).take 32).toArray) rfl rfl rfl rfl rfl (fun u hu=>ht3 u (by simp only [List.toList_toArray] at hu; exact List.mem_of_mem_drop (List.mem_of_mem_take hu))) (by rw [ha2]; exact head_info) hc8 (by rw [ha2]; simp [n8]) fun w9 hw9=>?_
  simp only [Act.put,List.setIfInBounds_toArray,List.set_cons_succ,List.set_cons_zero]
  refine wpListIn_nil ?_
  obtain ⟨e9,he9⟩:∃ e9,e9=spl e8 14 ((ts.toList.drop 14).take 32).toArray.toList:=⟨_,rfl⟩
  have g9:∀ i,i<14→e9[i]?=e8[i]?:=fun i hi=>by
   rw [he9,spl_get (by simp [n8,ht2]),if_pos hi]
  have n9:e9.length=46:=by rw [he9,spl_len (by simp [n8,ht2])]; exact n8
  have q9:∀ v∈e9,v.oneCell'=true:=fun v hv=>by
   rw [he9] at hv
   rcases spl_mem hv with hv | hv
   ·exact q8 v hv
   ·exact ht3 v (by simp only [List.toList_toArray] at hv; exact List.mem_of_mem_drop (List.mem_of_mem_take hv))
  have hc9:w9.heap[b5]?=some (.cells e9.toArray 43 (0,0)):=by rw [he9]; exact hw9.cell
  have z9:w9.heap.size=w7.heap.size:=hw9.size.trans z8
  have kk9:∀ k,k<w3.heap.size→k≠b5→v12.ownBlock≠some k→v13.ownBlock≠some k→w9.heap[k]?=w3.heap[k]?:=fun k hk hb h12' h13' =>
   (hw9.same k hb).trans ((hw8.same k hb).trans ((hg7.block k (by omega) (fun e=>h13' e.symm)).trans (kk6 k hk hb h12')))
  have l9:w9.heap[L]?=some (.loop { (Rg.recOf fn #[x0,x1,x2,x3,x4,.pointer (some ⟨b5,0,none⟩),x6,x7,x8,x9,x10,x11,x12,x13,x14,x15,x16,x17,x18,x19,x20,x21,x22,x23,x24,x25,x26,x27,x28,x29,x30,x31,x32,x33,x34,x35,x36,x37,x38,x39,x40,x41] #[22] asg10 bod10 (L - 1) .ready none) with state:=.busy }) :=
   (kk9 L (by omega) (fun e=>fb.2.2.1 e.symm) (fun e=>(o12 _ e).2.1 rfl) (fun e=>(o13 _ e).2.1 rfl)).trans ((hw3.same L (fun e=>fb.2.2.1 e.symm)).trans l2)
  refine ⟨_,_,run_endRound none l9,?_⟩
  obtain ⟨w10,hw10⟩:∃ w10,w10=w9.putObj L (.loop (Rg.recOf fn #[x0,x1,x2,x3,x4,.pointer (some ⟨b5,0,none⟩),x6,x7,x8,x9,x10,x11,x12,x13,x14,x15,x16,x17,x18,x19,x20,x21,x22,x23,x24,x25,x26,x27,x28,x29,x30,x31,x32,x33,x34,x35,x36,x37,x38,x39,x40,x41] #[22] asg10 bod10 (L - 1) .ready none)):=⟨_,rfl⟩
  have k10:∀ k,k≠L→w10.heap[k]?=w9.heap[k]?:=fun k hk=>by rw [hw10]; exact World.putObj_heap_other hk
  have l10:w10.heap[L]?=some (.loop (Rg.recOf fn #[x0,x1,x2,x3,x4,.pointer (some ⟨b5,0,none⟩),x6,x7,x8,x9,x10,x11,x12,x13,x14,x15,x16,x17,x18,x19,x20,x21,x22,x23,x24,x25,x26,x27,x28,x29,x30,x31,x32,x33,x34,x35,x36,x37,x38,x39,x40,x41] #[22] asg10 bod10 (L - 1) .ready none)):=by rw [hw10]; exact World.putObj_heap_same (by omega)
  have z10:w10.heap.size=w9.heap.size:=by rw [hw10]; simp
  have o10:w10.os=w9.os∧w10.tape=w9.tape∧w10.output=w9.output:=by rw [hw10]; exact ⟨rfl,rfl,rfl⟩
  show _=_∧StepJ _ _ _ _ _ _ _ (grow A w (w9.putObj L (.loop (Rg.recOf fn #[x0,x1,x2,x3,x4,.pointer (some ⟨b5,0,none⟩),x6,x7,x8,x9,x10,x11,x12,x13,x14,x15,x16,x17,x18,x19,x20,x21,x22,x23,x24,x25,x26,x27,x28,x29,x30,x31,x32,x33,x34,x35,x36,x37,x38,x39,x40,x41] #[22] asg10 bod10 (L - 1) .ready none)))) (w9.putObj L (.loop (Rg.recOf fn #[x0,x1,x2,x3,x4,.pointer (some ⟨b5,0,none⟩),x6,x7,x8,x9,x10,x11,x12,x13,x14,x15,x16,x17,x18,x19,x20,x21,x22,x23,x24,x25,x26,x27,x28,x29,x30,x31,x32,x33,x34,x35,x36,x37,x38,x39,x40,x41] #[22] asg10 bod10 (L - 1) .ready none)))∧Frm A w (w9.putObj L (.loop (Rg.recOf fn #[x0,x1,x2,x3,x4,.pointer (some ⟨b5,0,none⟩),x6,x7,x8,x9,x10,x11,x12,x13,x14,x15,x16,x17,x18,x19,x20,x21,x22,x23,x24,x25,x26,x27,x28,x29,x30,x31,x32,x33,x34,x35,x36,x37,x38,x39,x40,x41] #[22] asg10 bod10 (L - 1) .ready none)))
  rw [← hw10]
  have fr:Frm A w w10:=by
   refine ⟨by omega,fun k hk hA=>?_,?_,?_,?_⟩
   ·have kL:k≠L:=fun e=>hA (e ▸ al)
    have kb:k≠b5:=fun e=>hA (e ▸ ab)
    rw [k10 k kL,kk9 k (by omega) kb (fun e=>hA (h11 k e)) (fun e=>hA (h12 k e)),kk3 k hk kL kb]
   ·rw [o10.1,hw9.os,hw8.os,hg7.os,hw6.os,hg5.os,hw3.os,o2.1]
   ·rw [o10.2.1,hw9.tape,hw8.tape,hg7.tape,hw6.tape,hg5.tape,hw3.tape,o2.2.1]
   ·rw [o10.2.2,hw9.output,hw8.output,hg7.output,hw6.output,hg5.output,hw3.output,o2.2.2]
  have hown:∀ {v u:Value} {g:Nat},u.ownBlock=some g→(u.ownBlock=v.ownBlock∨u.ownBlock=some w3.heap.size)→(∀ g,v.ownBlock=some g→A g)→True:=fun _ _ _=>trivial
  have r12:∀ g,v5.ownBlock=some g→grow A w w10 g:=fun g hg=>by
   rcases hb5 with e | e
   ·exact .inl (h11 g (e ▸ hg))
   ·have:g=w3.heap.size:=by rw [hg] at e; injection e
    have:=(own_lt ho5 hg).2
    exact .inr ⟨by omega,by omega⟩
  have r13:∀ g,v7.ownBlock=some g→grow A w w10 g:=fun g hg=>by
   rcases hb7 with e | e
   ·exact .inl (h12 g (e ▸ hg))
   ·have:g=w6.heap.size:=by rw [hg] at e; injection e
    have:=(own_lt ho7 hg).2
    exact .inr ⟨by omega,by omega⟩
  have kown:∀ {u:Value} {g:Nat} {e size k:Nat} {xs:List Value},w8.ownsRow base e size u k xs→u.ownBlock=some g→w10.heap[g]?=w8.heap[g]?:=fun hu hg=>by
   have:=(own_lt hu hg).1
   have h1:=fb.1
   have h2:=fb.2.1
   rw [k10 _ (by omega),hw9.same _ (by omega)]
  have dis:∀ g,v5.ownBlock=some g→v7.ownBlock≠some g:=fun g hg hg7'=>by
   rcases hb7 with e | e
   ·rcases d57 with h | h
    ·exact h (by rw [← e,hg7',hg])
    ·rw [h] at hg; cases hg
   ·have h1:g=w6.heap.size:=by rw [hg7'] at e; injection e
    have:=(own_lt h56 hg).2
    omega
  refine ⟨rfl,⟨⟨e9.toArray,v5,v7,n+sl,xs++ss,(k10 b5 fb.2.2.1).trans hc9,by simp [n9],fun v hv=>q9 v (by simpa using hv),?_,by rw [List.getElem?_toArray,g9 12 (by omega),g8,if_neg (by omega),g6,if_pos rfl],by rw [List.getElem?_toArray,g9 13 (by omega),g8,if_pos rfl],
   ownsRow_keep h58 (fun g hg=>kown h58 hg),fun u hu=>(List.mem_append.1 hu).elim (h8 u) (hs1 u),by omega,?_,r12,r13,dis⟩,l10,?_,?_,(by simp only [List.length_append]; omega),.inl ab,.inl al,.inl ad,?_,fb,by omega⟩,fr⟩
  ·obtain ⟨mz,cz,z1',z2',z3',z4',t0,t1,t2,t3,t4,t5,bnd⟩:=ht4.ex
   have gt:∀ i,i<12→e9.toArray[i]?=ts[i]?:=fun i hi=>by
    rw [List.getElem?_toArray,g9 i (by omega),g8,if_neg (by omega),g6,if_neg (by omega),g3,if_pos hi]
   exact ⟨mz,cz,z1',z2',z3',z4',(gt 0 (by omega)).trans t0,(gt 1 (by omega)).trans t1,(gt 2 (by omega)).trans t2,(gt 3 (by omega)).trans t3,(gt 4 (by omega)).trans t4,(gt 5 (by omega)).trans t5,bnd⟩
  ·have:=ownsRow_keep h78 (fun g hg=>kown h78 hg)
   rw [List.length_append,← hrl2,rcCells_app]
   exact this
  ·rw [k10 _ (by have:=fb; omega),kk9 _ (by have:=lt _ ad; omega) (fun e=>fb.2.2.2.1 e.symm) (fun e=>by have:=(own_lt h7 e).1; have:=fb; omega) (fun e=>by have:=(own_lt h10 e).1; have:=fb; omega),kk3 _ (lt _ ad) (by have:=fb; omega) (fun e=>fb.2.2.2.1 e.symm)]
   exact df
  ·intro r hr
   rcases List.mem_append.1 hr with hr | hr
   ·exact src r hr
   ·exact hsrc r hr
  ·intro k hk
   rcases hk with hk | hk
   ·have:=lt k hk; omega
   ·exact hk.2
end Mc
end
section
namespace Mc
open Go.RowKit Go.Shelf
open SE (Rc rcCells i64)
open Crc Fr St
set_option maxHeartbeats 4000000
variable {δ:Type} {K:δ→Foot→World→Prop} {mo:Int} {RB:Nat→δ→δ→List Rc→Prop} {RS RT:δ→δ→List Rc→Prop} {RH:Bool→δ→δ→List Rc→Prop} {Bc:Nat}
def EvR (RB:Nat→δ→δ→List Rc→Prop) (RS RT:δ→δ→List Rc→Prop) (RH:Bool→δ→δ→List Rc→Prop) (z s:Int) (b:Bool) (d d':δ) (rs:List Rc):Prop :=
 (z=0∧∃ l:Nat,s=(l:Int)∧1≤l∧l≤3∧RB l d d' rs)∨(z=1∧RS d d' rs)∨(z=2∧RH b d d' rs)∨(z=3∧RT d d' rs)∨(d=d'∧rs=[])
structure CW (K:δ→Foot→World→Prop) (J:List Rc→Foot→World→Prop) (R:δ→δ→List Rc→Prop) (d:δ) (O A:Foot) (g:Nat→Nat) (w w':World):Prop where
 ex:∃ d' O' rs' A',K d' O' w'∧J rs' A' w'∧R d d' rs'∧rs'.length≤8000∧(∀ n,A' n→¬ O' n)∧(∀ n,O' n→O n∨w.heap.size≤n)∧(∀ n,A' n→A n∨w.heap.size≤n)∧∀ l,1≤l→l≤3→∀ n,SFoot w' (g l) n→¬ O' n∧¬ A' n∧(SFoot w (g l) n∨w.heap.size≤n)
 str:∀ l,1≤l→l≤3→∃ n0 rest,Strm w' n0 (g l) rest∧rest.length≤40
 frm:Frm (fun n=>O n∨A n∨∃ l,1≤l∧l≤3∧n=g l) w w'
structure Strs (g:Nat→Nat) (O A:Foot) (w:World):Prop where
 str:∀ l,1≤l→l≤3→∃ n0 rest,Strm w n0 (g l) rest∧rest.length≤40
 far:∀ l,1≤l→l≤3→∀ n,SFoot w (g l) n→¬ O n∧¬ A n∧∀ l',1≤l'→l'≤3→l'≠l→n≠g l'
theorem sfoot_same {w w':World} {g:Nat} (hs:w'.heap[g]?=w.heap[g]?) {n:Nat} (h:SFoot w' g n):SFoot w g n:=by
 rcases h with h | ⟨a,k,c,h,e⟩
 ·exact .inl h
 ·exact .inr ⟨a,k,c,(World.cell?_of_block (a:=⟨g,0,none⟩) hs).symm.trans h,e⟩
theorem sfoot_lt {w:World} {g n0:Nat} {rest:List UInt8} (h:Strm w n0 g rest) {n:Nat} (hn:SFoot w g n):n<w.heap.size:=by
 rcases strm_foot h hn with rfl | h'
 ·exact h.1
 ·exact h'.2
theorem CW.of_went {J:List Rc→Foot→World→Prop} {R R':δ→δ→List Rc→Prop} {d:δ} {O A:Foot} {g:Nat→Nat} {w w':World} (hS:Strs g O A w) (h:Went K J R d [] O A w w') (hR:∀ d' rs,R d d' rs→R' d d' rs) (hlen:∀ rs A w,J rs A w→rs.length≤8000):CW K J R' d O A g w w':=by
 obtain ⟨⟨d',O',rs',A',h1,h2,h3,h4,h5,h6⟩,h7⟩:=h
 rw [List.nil_append] at h2
 have same:∀ l,1≤l→l≤3→∀ n,SFoot w (g l) n→w'.heap[n]?=w.heap[n]?:=fun l a b n hn=>by
  obtain ⟨n0,rest,hst,_⟩:=hS.str l a b
  exact h7.same n (sfoot_lt hst hn) fun h=>h.elim (hS.far l a b n hn).1 (hS.far l a b n hn).2.1
 refine ⟨⟨d',O',rs',A',h1,h2,hR _ _ h3,hlen _ _ _ h2,h4,fun n hn=>?_,fun n hn=>?_,fun l a b n hn=>?_⟩,fun l a b=>?_,⟨h7.size,fun n hn hno=>h7.same n hn fun h=>hno (h.elim .inl fun h=>.inr (.inl h)),h7.os,h7.tape,h7.output⟩⟩
 ·rcases h5 n hn with h | h
  ·exact .inl h
  ·exact .inr h.1
 ·rcases h6 n hn with h | h
  ·exact .inl h
  ·exact .inr h.1
 ·have hn':=sfoot_same (same l a b _ (.inl rfl)) hn
  have hf:=hS.far l a b n hn'
  obtain ⟨n0,rest,hst,_⟩:=hS.str l a b
  have hlt:=sfoot_lt hst hn'
  refine ⟨fun h=>?_,fun h=>?_,.inl hn'⟩
  ·rcases h5 n h with h | h
   ·exact hf.1 h
   ·omega
  ·rcases h6 n h with h | h
   ·exact hf.2.1 h
   ·omega
 ·obtain ⟨n0,rest,hst,hl⟩:=hS.str l a b
  exact ⟨n0,rest,strm_keep hst h7.size (same l a b),hl⟩
theorem CW.of_wentB {J:List Rc→Foot→World→Prop} {R R':δ→δ→List Rc→Prop} {d:δ} {O A:Foot} {g:Nat→Nat} {w w':World} (hS:Strs g O A w) {l0:Nat} (a0:1≤l0) (b0:l0≤3) (h:WentB K J R d [] O A (g l0) w w') (hR:∀ d' rs,R d d' rs→R' d d' rs):CW K J R' d O A g w w':=by
 obtain ⟨⟨d',O',rs',A',h1,h2,h3,h4,h5,h6,h7,h8⟩,⟨rest,hst,hl⟩,hF⟩:=h
 rw [List.nil_append] at h2
 have same:∀ l,1≤l→l≤3→l≠l0→∀ n,SFoot w (g l) n→w'.heap[n]?=w.heap[n]?:=fun l a b hne n hn=>by
  obtain ⟨n0,rest,hst,_⟩:=hS.str l a b
  have hf:=hS.far l a b n hn
  exact hF.same n (sfoot_lt hst hn) fun h=>by
   rcases h with h | h | h
   ·exact hf.1 h
   ·exact hf.2.1 h
   ·exact hf.2.2 l0 a0 b0 (Ne.symm hne) h
 refine ⟨⟨d',O',rs',A',h1,h2,hR _ _ h3,h4,h5,h6,h7,fun l a b n hn=>?_⟩,fun l a b=>?_,⟨hF.size,fun n hn hno=>hF.same n hn fun h=>?_,hF.os,hF.tape,hF.output⟩⟩
 ·by_cases e:l=l0
  ·subst e
   have:=h8 n hn
   refine ⟨this.1,this.2,?_⟩
   rcases strm_foot hst hn with rfl | h
   ·exact .inl (.inl rfl)
   ·exact .inr h.1
  ·have hn':=sfoot_same (same l a b e _ (.inl rfl)) hn
   have hf:=hS.far l a b n hn'
   obtain ⟨n0,rest,hst,_⟩:=hS.str l a b
   have hlt:=sfoot_lt hst hn'
   refine ⟨fun h=>?_,fun h=>?_,.inl hn'⟩
   ·rcases h6 n h with h | h
    ·exact hf.1 h
    ·omega
   ·rcases h7 n h with h | h
    ·exact hf.2.1 h
    ·omega
 ·by_cases e:l=l0
  ·subst e
   exact ⟨_,rest,hst,hl⟩
  ·obtain ⟨n0,rest,hst,hl⟩:=hS.str l a b
   exact ⟨n0,rest,strm_keep hst hF.size (same l a b e),hl⟩
 ·rcases h with h | h | h
  ·exact hno (.inl h)
  ·exact hno (.inr (.inl h))
  ·exact hno (.inr (.inr ⟨l0,a0,b0,h⟩))
theorem comes_all (hC:CoreI Bc K mo RB RS RT RH) {L:Nat} {J:Nat→List Rc→Foot→World→Prop} (hR:RoundI mo Fence.wide 2 L J) {M be bm:Nat} {w:World} {d:δ} {O A:Foot} {g:Nat→Nat}
  (hRB0:∀ l d,RB l d d []) (hRBt:∀ l d1 d2 d3 r1 r2,RB l d1 d2 r1→RB l d2 d3 r2→RB l d1 d3 (r1++r2)) (hJl:∀ m rs A w,J m rs A w→m≤1→rs.length≤8000)
  {z s x1 x2 x3 x4:Int} {B:Option Addr} {n c:Nat} {v gv b:Bool} {x:List UInt8} {mm:Nat}
  (hK:K d O w) (hJ:J 0 [] A w) (hd:∀ n,A n→¬ O n) (hS:Strs g O A w) (hfar:∀ b,b=bm∨b=M∨b=be→¬ O b∧¬ A b∧∀ l,1≤l→l≤3→b≠g l)
  (hm:w.cell? ⟨bm,0,none⟩=some (.pointer (some ⟨M,0,none⟩))) (hM:w.cell? ⟨M,0,none⟩=some (.pointer (some ⟨Bc,0,none⟩))) (hMg:∀ l,1≤l→l≤3→w.cell? ⟨M,l+1,none⟩=some (.pointer (some ⟨g l,0,none⟩)))
  (h0:w.cell? ⟨be,0,none⟩=some (i64 z)) (h1:w.cell? ⟨be,1,none⟩=some (i64 s)) (h2:w.cell? ⟨be,2,none⟩=some (.slice B n c)) (h3:w.cell? ⟨be,3,none⟩=some (.bool v)) (h4:w.cell? ⟨be,4,none⟩=some (i64 x1)) (h5:w.cell? ⟨be,5,none⟩=some (i64 x2)) (h6:w.cell? ⟨be,6,none⟩=some (i64 x3)) (h7:w.cell? ⟨be,7,none⟩=some (i64 x4)) (h8:w.cell? ⟨be,8,none⟩=some (.bool gv)) (h9:w.cell? ⟨be,9,none⟩=some (.bool b))
  (hx:∀ x∈[x1,x2,x3,x4],-9223372036854775808≤x∧x≤9223372036854775807) (hrd:Reads w w.heap.size 1 B n (x.map bv)) (hn:n≤120) :
  CallsIn Fence.wide 2 Tryz.prog 31 #[.func (.yield L) #[] #[],.pointer (some ⟨be,0,none⟩),.pointer (some ⟨bm,0,none⟩)] w fun e w'=>(∃ v,e=.returned v)∧CW K (fun rs A w=>∃ m,J m rs A w) (EvR RB RS RT RH z s b) d O A g w w':=by
 have hf:=fun l a b=>fun q hq=>(⟨(hfar q hq).1,(hfar q hq).2.1,(hfar q hq).2.2 l a b⟩:¬ O q∧¬ A q∧q≠g l)
 have went:∀ {R:δ→δ→List Rc→Prop} {w':World},(∀ d' rs,R d d' rs→EvR RB RS RT RH z s b d d' rs)→Went K (J (0+1)) R d [] O A w w'→CW K (fun rs A w=>∃ m,J m rs A w) (EvR RB RS RT RH z s b) d O A g w w':=fun hr h=>by
  have h':=CW.of_went hS h hr (fun rs A w hj=>hJl _ _ _ _ hj (Nat.le_refl _))
  obtain ⟨⟨d',O',rs',A',q1,q2,q3⟩,q4,q5⟩:=h'
  exact ⟨⟨d',O',rs',A',q1,⟨_,q2⟩,q3⟩,q4,q5⟩
 have bytes:∀ {l:Nat} {w':World},1≤l→l≤3→z=0→s=(l:Int)→WentB K (fun rs A w=>∃ m',m'≤0+160∧J m' rs A w) (RB l) d [] O A (g l) w w'→CW K (fun rs A w=>∃ m,J m rs A w) (EvR RB RS RT RH z s b) d O A g w w':=fun {l w'} a c e1 e2 h=>by
  have h':=CW.of_wentB hS a c h (R':=EvR RB RS RT RH z s b) (fun d' rs hr=>.inl ⟨e1,l,e2,a,c,hr⟩)
  obtain ⟨⟨d',O',rs',A',q1,⟨m,_,q2⟩,q3⟩,q4,q5⟩:=h'
  exact ⟨⟨d',O',rs',A',q1,⟨m,q2⟩,q3⟩,q4,q5⟩
 have none:∀ {w':World},w'=w→CW K (fun rs A w=>∃ m,J m rs A w) (EvR RB RS RT RH z s b) d O A g w w':=fun e=>by
  subst e
  have h':=CW.of_went (R':=EvR RB RS RT RH z s b) hS (Went.none (R:=fun d d' rs=>d=d'∧rs=[]) (rs:=[]) hK hJ hd ⟨rfl,rfl⟩) (fun d' rs hr=>.inr (.inr (.inr (.inr hr)))) (fun rs A w hj=>hJl _ _ _ _ hj (by omega))
  obtain ⟨⟨d',O',rs',A',q1,q2,q3⟩,q4,q5⟩:=h'
  exact ⟨⟨d',O',rs',A',q1,⟨_,q2⟩,q3⟩,q4,q5⟩
 have go:∀ l,1≤l→l≤3→¬ O (g l)∧¬ A (g l):=fun l a b=>⟨(hS.far l a b _ (.inl rfl)).1,(hS.far l a b _ (.inl rfl)).2.1⟩
 by_cases z0:z=0
 ·subst z0
  by_cases hs:1≤s∧s≤3
  ·have h3':s=1∨s=2∨s=3:=by omega
   rcases h3' with rfl | rfl | rfl
   ·obtain ⟨n0,rest,hst,hrl⟩:=hS.str 1 (by omega) (by omega)
    exact (comes_bytes1 hC hR M be bm (g 1) n0 0 w d O A [] hRB0 hRBt B n c x rest hK hJ hd (by omega) (by simp) (hf 1 (by omega) (by omega)) (go 1 (by omega) (by omega)) hm hM (hMg 1 (by omega) (by omega)) h0 h1 h2 hrd hn hst hrl).mono fun e w' h=>⟨h.1,bytes (l:=1) (by omega) (by omega) rfl rfl h.2⟩
   ·obtain ⟨n0,rest,hst,hrl⟩:=hS.str 2 (by omega) (by omega)
    exact (comes_bytes2 hC hR M be bm (g 2) n0 0 w d O A [] hRB0 hRBt B n c x rest hK hJ hd (by omega) (by simp) (hf 2 (by omega) (by omega)) (go 2 (by omega) (by omega)) hm hM (hMg 2 (by omega) (by omega)) h0 h1 h2 hrd hn hst hrl).mono fun e w' h=>⟨h.1,bytes (l:=2) (by omega) (by omega) rfl rfl h.2⟩
   ·obtain ⟨n0,rest,hst,hrl⟩:=hS.str 3 (by omega) (by omega)
    exact (comes_bytes3 hC hR M be bm (g 3) n0 0 w d O A [] hRB0 hRBt B n c x rest hK hJ hd (by omega) (by simp) (hf 3 (by omega) (by omega)) (go 3 (by omega) (by omega)) hm hM (hMg 3 (by omega) (by omega)) h0 h1 h2 hrd hn hst hrl).mono fun e w' h=>⟨h.1,bytes (l:=3) (by omega) (by omega) rfl rfl h.2⟩
  ·exact (comes_far be bm w s h0 h1 (by omega)).mono fun e w' h=>⟨h.1,none h.2⟩
 ·by_cases z1:z=1
  ·subst z1
   exact (comes_sample hC hR M be bm 0 w d O A [] v gv x1 x2 x3 x4 hK hJ hd (by omega) (by simp) hm hM h0 h3 h4 h5 h6 h7 h8 hx).mono fun e w' h=>⟨h.1,went (fun d' rs hr=>.inr (.inl ⟨rfl,hr⟩)) h.2⟩
  ·by_cases z2:z=2
   ·subst z2
    exact (comes_health hC hR M be bm 0 w d O A [] b hK hJ hd (by omega) (by simp) hm hM h0 h9).mono fun e w' h=>⟨h.1,went (fun d' rs hr=>.inr (.inr (.inl ⟨rfl,hr⟩))) h.2⟩
   ·by_cases z3:z=3
    ·subst z3
     exact (comes_tick hC hR M be bm 0 w d O A [] hK hJ hd (by omega) (by simp) hm hM h0).mono fun e w' h=>⟨h.1,went (fun d' rs hr=>.inr (.inr (.inr (.inl ⟨rfl,hr⟩)))) h.2⟩
    ·exact (comes_else be bm w z h0 z0 z1 z2 z3).mono fun e w' h=>⟨h.1,none h.2⟩
end Mc
end
end Go.Proofs.YtdgejnakakjgfaaGreatDoor
