/- A tick, an item: the core's calls. The core is what the machine sees. What comes of other events. The items of bytes that come; one more round. The bytes of a link: what they come to; helpers. A round of the loop over what came: its calls. -/
import Derived.Test.YtdgejnakakjgfaaGreatDoorR27
import Derived.Test.YtdgejnakakjgfaaGreatDoorR29
import Derived.Test.YtdgejnakakjgfaaGreatDoorR32
import Derived.Test.YtdgejnakakjgfaaGreatDoorR19
import Derived.KernelRfl
import Derived.RangeFuncNested
import Derived.RangeFuncBound
import Derived.RangeFuncCalls
import Derived.RangeFuncLeaves
import Derived.Shelf.Abstract
import Derived.Shelf.RegionOpen
import Derived.WalkKit
import Derived.OwnWalkIn
import Derived.TacticsInMore
import Derived.LoopNIn
import Derived.LoopIn
set_option linter.unusedVariables false
set_option linter.unusedSimpArgs false
set_option maxRecDepth 100000
namespace Go.Proofs.YtdgejnakakjgfaaGreatDoor
section
namespace SE
open Go.RowKit
set_option maxHeartbeats 0
variable {pc:Array Value}
def kTick53:List SV→SE.St→Option Out:=kSm tick53M namedC true
def kItem50 (args:List SV) (st:SE.St):Option Out:=match selL item50M args st with | some kf=>kf args st | none=>none
noncomputable abbrev kCore2:List (Nat×(List SV→SE.St→Option Out)):=(53,kTick53)::(50,kItem50)::kCore1
theorem kCore2_ok (hp:PolFit pc):KAll (Xc pc) kCore2:=⟨kSmL hp (tick53_sm hp) namedC true,k_sel fun args st kf h=>selL_ok hp (item50_sm hp) h,kCore1_ok hp⟩
def tick36M:Sm:=⟨coreSt,[.ptr 1 0],[tlL 22 en0]⟩
def itemS:SE.St:={ coreSt with tab:=(298,0,100)::(299,0,32)::coreSt.tab,sls:=(25,.bytes (.a 299))::coreSt.sls }
def itemM (l:Nat):Sm:=⟨itemS,[.ptr 1 0,N (Int.ofNat l),.agg [A 298,.sl 25]],[tlE 4 en0,tlE 4 (enL l)]⟩
theorem tick36_r:coreR kCore2 36 tick36M=true:=by decide +kernel
theorem item33_1:coreR kCore2 33 (itemM 1)=true:=by decide +kernel
theorem item33_2:coreR kCore2 33 (itemM 2)=true:=by decide +kernel
theorem item33_3:coreR kCore2 33 (itemM 3)=true:=by decide +kernel
theorem tick36_sm (hp:PolFit pc):SmOk (Xc pc) 36 tick36M:=core_sm hp (kCore2_ok hp) tick36_r
theorem item33_sm (hp:PolFit pc) (l:Nat) (a:1≤l) (b:l≤3):SmOk (Xc pc) 33 (itemM l) :=
 three (p:=fun l=>SmOk (Xc pc) 33 (itemM l)) (core_sm hp (kCore2_ok hp) item33_1) (core_sm hp (kCore2_ok hp) item33_2) (core_sm hp (kCore2_ok hp) item33_3) a b
end SE
end
section
namespace SE
open Go.RowKit Mc
set_option maxHeartbeats 0
variable {own0:Nat→Prop} {w0 w w':World} {E E':Env} {st st':SE.St} {pc:Array Value} {X:Px}
def noRo:List (Nat×Blk)→Bool
 | []=>true
 | (_,b)::l=>!b.isRo&&noRo l
theorem noRo_ok:∀ {l:List (Nat×Blk)},noRo l=true→∀ id blk,lk l id=some blk→blk.isRo=false
 | [],_,id,blk,h=>by simp [lk] at h
 | (i,b)::l,hn,id,blk,h=>by
  simp only [noRo,Bool.and_eq_true,Bool.not_eq_true'] at hn
  rw [lk_cons] at h
  split at h
  ·cases h; exact hn.1
  ·exact noRo_ok hn.2 id blk h
theorem tl_e0:TlOk (tlE 4 en0).2 4 newB3 0 0 0 :=
 ⟨by decide +kernel,by decide +kernel,hasF_mem (by decide +kernel),hasF_mem (by decide +kernel),hasF_mem (by decide +kernel),hasF_mem (by decide +kernel),by kernel_rfl,by kernel_rfl,by decide +kernel,by decide +kernel,by decide +kernel,by decide +kernel,by decide +kernel,by decide +kernel,by decide +kernel,by decide +kernel,by decide +kernel,hasF_mem (by decide +kernel),hasF_mem (by decide +kernel),hasF_mem (by decide +kernel),by decide +kernel,noRo_ok (by decide +kernel)⟩
theorem tl_e1:TlOk (tlE 4 (enL 1)).2 4 newB3 1 0 0 :=
 ⟨by decide +kernel,by decide +kernel,hasF_mem (by decide +kernel),hasF_mem (by decide +kernel),hasF_mem (by decide +kernel),hasF_mem (by decide +kernel),by kernel_rfl,by kernel_rfl,by decide +kernel,by decide +kernel,by decide +kernel,by decide +kernel,by decide +kernel,by decide +kernel,by decide +kernel,by decide +kernel,by decide +kernel,hasF_mem (by decide +kernel),hasF_mem (by decide +kernel),hasF_mem (by decide +kernel),by decide +kernel,noRo_ok (by decide +kernel)⟩
theorem tl_e2:TlOk (tlE 4 (enL 2)).2 4 newB3 0 1 0 :=
 ⟨by decide +kernel,by decide +kernel,hasF_mem (by decide +kernel),hasF_mem (by decide +kernel),hasF_mem (by decide +kernel),hasF_mem (by decide +kernel),by kernel_rfl,by kernel_rfl,by decide +kernel,by decide +kernel,by decide +kernel,by decide +kernel,by decide +kernel,by decide +kernel,by decide +kernel,by decide +kernel,by decide +kernel,hasF_mem (by decide +kernel),hasF_mem (by decide +kernel),hasF_mem (by decide +kernel),by decide +kernel,noRo_ok (by decide +kernel)⟩
theorem tl_e3:TlOk (tlE 4 (enL 3)).2 4 newB3 0 0 1 :=
 ⟨by decide +kernel,by decide +kernel,hasF_mem (by decide +kernel),hasF_mem (by decide +kernel),hasF_mem (by decide +kernel),hasF_mem (by decide +kernel),by kernel_rfl,by kernel_rfl,by decide +kernel,by decide +kernel,by decide +kernel,by decide +kernel,by decide +kernel,by decide +kernel,by decide +kernel,by decide +kernel,by decide +kernel,hasF_mem (by decide +kernel),hasF_mem (by decide +kernel),hasF_mem (by decide +kernel),by decide +kernel,noRo_ok (by decide +kernel)⟩
theorem tl_l10:TlOk (tlL 10 en0).2 10 lateB 0 0 0 :=
 ⟨by decide +kernel,by decide +kernel,hasF_mem (by decide +kernel),hasF_mem (by decide +kernel),hasF_mem (by decide +kernel),hasF_mem (by decide +kernel),by kernel_rfl,by kernel_rfl,by decide +kernel,by decide +kernel,by decide +kernel,by decide +kernel,by decide +kernel,by decide +kernel,by decide +kernel,by decide +kernel,by decide +kernel,hasF_mem (by decide +kernel),hasF_mem (by decide +kernel),hasF_mem (by decide +kernel),by decide +kernel,noRo_ok (by decide +kernel)⟩
theorem tl_l22:TlOk (tlL 22 en0).2 22 lateB 0 0 0 :=
 ⟨by decide +kernel,by decide +kernel,hasF_mem (by decide +kernel),hasF_mem (by decide +kernel),hasF_mem (by decide +kernel),hasF_mem (by decide +kernel),by kernel_rfl,by kernel_rfl,by decide +kernel,by decide +kernel,by decide +kernel,by decide +kernel,by decide +kernel,by decide +kernel,by decide +kernel,by decide +kernel,by decide +kernel,hasF_mem (by decide +kernel),hasF_mem (by decide +kernel),hasF_mem (by decide +kernel),by decide +kernel,noRo_ok (by decide +kernel)⟩
theorem cases3 {s:Int} {P:Int→Prop} (h1:1≤s) (h2:s≤3) (a:P 1) (b:P 2) (c:P 3):P s:=by
 have:s=1∨s=2∨s=3:=by omega
 rcases this with rfl | rfl | rfl <;> assumption
theorem out_e {n a b c:Int} {S:SE.St} {who:Int→Prop} (h:TlOk S n newB3 a b c) (hn:n≤50) (hw:∀ s,1≤s→s≤3→get3 (a,b,c) s≠0→who s) (h01:∀ s,1≤s→s≤3→get3 (a,b,c) s=0∨get3 (a,b,c) s=1):OutOk false who (tlV,S) :=
 ⟨⟨n,_,a,b,c,rfl,hn,h,fun _=>rfl,fun h=>by (cases h),hw,h01⟩⟩
theorem out_l {n a b c:Int} {S:SE.St} {who:Int→Prop} (h:TlOk S n lateB a b c) (hn:n≤50) (f1:(7,[A 2000237,A 2000246])∈S.facts) (f2:(7,[A 2000238,A 2000247])∈S.facts) (f3:(7,[A 2000239,A 2000248])∈S.facts)
  (hw:∀ s,1≤s→s≤3→get3 (a,b,c) s≠0→who s) (h01:∀ s,1≤s→s≤3→get3 (a,b,c) s=0∨get3 (a,b,c) s=1):OutOk true who (tlV,S) :=
 ⟨⟨n,_,a,b,c,rfl,hn,h,fun h=>by (cases h),fun _=>⟨rfl,f1,f2,f3⟩,hw,h01⟩⟩
theorem no3 {s:Int} (h1:1≤s) (h2:s≤3):get3 (0,0,0) s=0:=cases3 (P:=fun s=>get3 (0,0,0) s=0) h1 h2 rfl rfl rfl
theorem out_e0 {who:Int→Prop}:OutOk false who (tlE 4 en0):=out_e tl_e0 (by decide) (fun s a b h=>absurd (no3 a b) h) (fun s a b=>.inl (no3 a b))
theorem out_l10 {who:Int→Prop}:OutOk true who (tlL 10 en0):=out_l tl_l10 (by decide) (hasF_mem (by decide +kernel)) (hasF_mem (by decide +kernel)) (hasF_mem (by decide +kernel)) (fun s a b h=>absurd (no3 a b) h) (fun s a b=>.inl (no3 a b))
theorem out_l22 {who:Int→Prop}:OutOk true who (tlL 22 en0):=out_l tl_l22 (by decide) (hasF_mem (by decide +kernel)) (hasF_mem (by decide +kernel)) (hasF_mem (by decide +kernel)) (fun s a b h=>absurd (no3 a b) h) (fun s a b=>.inl (no3 a b))
theorem out_en (l:Nat) (a:1≤l) (b:l≤3):OutOk false (fun s=>s=l) (tlE 4 (enL l)) :=
 three (p:=fun l=>OutOk false (fun s=>s=l) (tlE 4 (enL l)))
  (out_e tl_e1 (by decide) (fun s a b=>cases3 (P:=fun s=>get3 (1,0,0) s≠0→s=(1:Nat)) a b (by decide) (by decide) (by decide)) (fun s a b=>cases3 (P:=fun s=>get3 (1,0,0) s=0∨get3 (1,0,0) s=1) a b (by decide) (by decide) (by decide)))
  (out_e tl_e2 (by decide) (fun s a b=>cases3 (P:=fun s=>get3 (0,1,0) s≠0→s=(2:Nat)) a b (by decide) (by decide) (by decide)) (fun s a b=>cases3 (P:=fun s=>get3 (0,1,0) s=0∨get3 (0,1,0) s=1) a b (by decide) (by decide) (by decide)))
  (out_e tl_e3 (by decide) (fun s a b=>cases3 (P:=fun s=>get3 (0,0,1) s≠0→s=(3:Nat)) a b (by decide) (by decide) (by decide)) (fun s a b=>cases3 (P:=fun s=>get3 (0,0,1) s=0∨get3 (0,0,1) s=1) a b (by decide) (by decide) (by decide))) a b
theorem like_core:Like coreSt:=⟨rfl,fun id len h=>h⟩
theorem G.addBytesA (g:G X own0 w0 E st w) {base:Option Addr} {ln cap:Nat} {len:SI} (hlen:SIok E len ln) (hc:ln≤cap) (hb:ByteRow w base ln)
  (hs:∀ x,base=some x→x.block<w.heap.size∧∀ bid blk,lk st.heap bid=some blk→E bid≠some (.blk x.block)) :
  G X own0 w0 (E.upd st.nid (.sl base ln cap)) { st with sls:=(st.nid,.bytes len)::st.sls,nid:=st.nid+1 } w:=by
 have hle:=Env.le_upd (x:=EV.sl base ln cap) g.nid_none
 have g1:=g.mono hle (fun id hid=>Env.upd_ne _ _ (by omega)) (Nat.le_succ _) (dom_upd g _)
 have hself:(E.upd st.nid (.sl base ln cap)) st.nid=some (.sl base ln cap):=Env.upd_self _ _ _
 exact g1.addSl (id:=st.nid) (i:=.bytes len) ⟨base,ln,cap,hself,hlen.mono hle,hc,hb,fun x hx=>⟨(hs x hx).1,fun bid blk hl=>by
  have hid:=g.hid hl
  rw [Env.upd_ne _ _ (by omega)]
  exact (hs x hx).2 bid blk hl⟩⟩
def itSt:SE.St:={ coreSt with tab:=(301,0,32)::(300,0,100)::coreSt.tab,sls:=(302,.bytes (.a 301))::coreSt.sls,nid:=303 }
def reI (i:Nat):Rn:=.nm (bif Nat.beq i 25 then 302 else bif Nat.beq i 298 then 300 else bif Nat.beq i 299 then 301 else i)
def reO (i:Nat):Rn:=.nm i
def renOf (f:Nat→Rn):List (Nat×Rn):=(List.range 300).map fun i=>(i,f i)
theorem lk_renOf {f:Nat→Rn} {i:Nat} (h:i<300):lk (renOf f) i=some (f i):=by
 have:∀ n a,a≤i→i<a+n→lk ((List.range' a n).map fun i=>(i,f i)) i=some (f i):=by
  intro n
  induction n with
  | zero=>intro a h1 h2; omega
  | succ n ih =>
   intro a h1 h2
   rw [List.range'_succ,List.map_cons,lk_cons]
   split
   ·rename_i e; rw [e]
   ·exact ih (a+1) (by omega) (by omega)
 have:=this 300 0 (by omega) (by omega)
 rw [← List.range_eq_range'] at this
 exact this
theorem env_renOf {f:Nat→Rn} {i j:Nat} (h:i<300) (hj:f i=.nm j):envOf ⟨0,renOf f⟩ E i=E j:=by
 simp only [envOf,rnf0,lk_renOf h,hj]
theorem fit_item:fit itemS itSt zT ⟨0,renOf reI⟩=true:=by decide +kernel
theorem fit_now:fit coreSt { coreSt with nid:=2000400 } zT ⟨0,renOf reO⟩=true:=by decide +kernel
theorem item_begin (hp:PolFit pc) {wL:World} {Bc:Nat} {d:Num} {O:Foot} (hK:KC pc wL Bc d O w) {l:Nat} {code:Int} {base:Option Addr} {ln cap:Nat} (c0:0≤code) (c1:code≤100) (h32:ln≤32) (hc:ln≤cap) (hb:BRow w base ln) (hbo:∀ x,base=some x→¬ O x.block) :
  ∃ E2,G (Xc pc) (fun _=>False) wL E2 itemS w∧NumE E2 0 d∧E2 1=some (.blk Bc)∧(∀ n,sees wL E2 n→O n)∧RL E2 (itemM l).args [.pointer (some ⟨Bc,0,none⟩),i64 l,.agg #[i64 code,.slice base ln cap]]:=by
 obtain ⟨⟨E,g,hd,h1,hs⟩,hlt⟩:=hK
 have g1:=g.atom (lo:=0) (hi:=100) c0 c1
 have g2:=g1.atom (lo:=0) (hi:=32) (z:=(ln:Int)) (by omega) (by omega)
 have hE:∀ {E0:Env} {a:Nat} {x:EV} {i:Nat},i≠a→(E0.upd a x) i=E0 i:=fun h=>Env.upd_ne _ _ h
 have g3:=g2.addBytesA (base:=base) (ln:=ln) (cap:=cap) (len:=.a 301) (by simp only [SIok]; exact Env.upd_self _ _ _) hc hb.1 (fun x hx=>⟨hb.2 x hx,fun bid blk hl=>by
  have hbid:=(core_lk_heap hl).2
  show ((E.upd 300 (.z code)).upd 301 (.z ln)) bid≠_
  rw [hE (by omega),hE (by omega)]
  exact fun h=>hbo x hx (hs _ (.inr (.inl ⟨bid,blk,hl,h⟩)))⟩)
 obtain ⟨E3,h3⟩:∃ E3,E3=(((E.upd 300 (.z code)).upd 301 (.z ln)).upd 302 (.sl base ln cap)):=⟨_,rfl⟩
 have g3':G (Xc pc) (fun _=>False) wL E3 itSt w:=by rw [h3]; exact g3
 have hE3:∀ i,i<300→E3 i=E i:=fun i hi=>by rw [h3,hE (by omega),hE (by omega),hE (by omega)]
 have e300:E3 300=some (.z code):=by rw [h3,hE (by decide),hE (by decide)]; exact Env.upd_self _ _ _
 have e302:E3 302=some (.sl base ln cap):=by rw [h3]; exact Env.upd_self _ _ _
 have g4:=fit_same (S:=itemS) (ren:=⟨0,renOf reI⟩) g3' fit_item core_hgl (core_hZ hp)
 have hlow:∀ i,i<298→i≠25→envOf ⟨0,renOf reI⟩ E3 i=E i:=fun i hi h25=>by
  rw [env_renOf (by omega) (j:=i) (by
   unfold reI
   have a1:Nat.beq i 25=false:=by rw [Bool.eq_false_iff]; exact fun h=>h25 (nbeq h)
   have a2:Nat.beq i 298=false:=by rw [Bool.eq_false_iff]; exact fun h=>by have:=nbeq h; omega
   have a3:Nat.beq i 299=false:=by rw [Bool.eq_false_iff]; exact fun h=>by have:=nbeq h; omega
   rw [a1,a2,a3]
   rfl)]
  exact hE3 i (by omega)
 refine ⟨_,g4,⟨⟨?_,?_,?_⟩,⟨?_,?_,?_⟩,⟨?_,?_,?_⟩⟩,?_,?_,?_⟩
 ·rw [hlow _ (by decide) (by decide)]; exact hd.on.1
 ·rw [hlow _ (by decide) (by decide)]; exact hd.on.2.1
 ·rw [hlow _ (by decide) (by decide)]; exact hd.on.2.2
 ·rw [hlow _ (by decide) (by decide)]; exact hd.ro.1
 ·rw [hlow _ (by decide) (by decide)]; exact hd.ro.2.1
 ·rw [hlow _ (by decide) (by decide)]; exact hd.ro.2.2
 ·rw [hlow _ (by decide) (by decide)]; exact hd.wt.1
 ·rw [hlow _ (by decide) (by decide)]; exact hd.wt.2.1
 ·rw [hlow _ (by decide) (by decide)]; exact hd.wt.2.2
 ·rw [hlow _ (by decide) (by decide)]; exact h1
 ·intro n hn
  rcases hn with hL | ⟨id,blk,h2,h3⟩ | ⟨id,len,a,l2,c2,h2,h3,rfl⟩ | ⟨cs,hc⟩
  ·exact hs n (.inl hL)
  ·have hid:id<25:=by
    simp only [coreHeap,lk_cons] at h2
    repeat' split at h2
    all_goals first
     | omega
     | (simp [lk] at h2)
   rw [hlow id (by omega) (by omega)] at h3
   exact hs n (.inr (.inl ⟨id,blk,h2,h3⟩))
  ·have hb2:=core_lk_bytes h2
   rw [hlow id (by omega) (by omega)] at h3
   exact hs _ (.inr (.inr (.inl ⟨id,len,a,l2,c2,h2,h3,rfl⟩)))
  ·exact hs n (.inr (.inr (.inr ⟨cs,hc⟩)))
 ·refine RL_cons.2 ⟨?_,RL_cons.2 ⟨RN _ _,RL_cons.2 ⟨?_,by simp [RL]⟩⟩⟩
  ·simp only [R]
   exact ⟨Bc,by rw [hlow _ (by decide) (by decide)]; exact h1,rfl⟩
  ·simp only [R]
   refine ⟨_,rfl,RL_cons.2 ⟨?_,RL_cons.2 ⟨?_,by simp [RL]⟩⟩⟩
   ·simp only [A,R,SIok]
    refine ⟨code,?_,rfl⟩
    rw [env_renOf (f:=reI) (i:=298) (by decide) (j:=300) rfl]
    exact e300
   ·simp only [R]
    refine ⟨base,ln,cap,?_,rfl⟩
    rw [env_renOf (f:=reI) (i:=25) (by decide) (j:=302) rfl]
    exact e302
theorem like_item:Like itemS:=⟨rfl,fun id len h=>by
 have:=core_lk_bytes h
 show lk ((25,SlI.bytes (.a 299))::coreSls) id=_
 rw [lk_cons,if_neg (by omega)]
 exact h⟩
theorem ptr_R {b n:Nat} (h:E b=some (.blk n)):R E (.ptr b 0) (.pointer (some ⟨n,0,none⟩)):=by simp only [R]; exact ⟨n,h,rfl⟩
theorem bool_R {b:Bool}:R E .bool (.bool b):=by simp only [R]; exact ⟨b,rfl⟩
theorem i64_R {z:Int} (h:-9223372036854775808≤z∧z≤9223372036854775807):R E I64 (i64 z):=by simp only [I64,R,SIok]; exact ⟨z,h,rfl⟩
theorem core_i (hp:PolFit pc) (wL:World) (Bc:Nat):CoreI Bc (KC pc wL Bc) (mostOf pc) (fun l=>Rel false (fun s=>s=l)) (Rel false (fun _=>False)) (Rel true (fun _=>False)) (fun b=>Rel b (fun _=>False)) where
 keep:=fun d O w w' h hS=>h.keep hS
 lt:=fun d O w n h hO=>h.lt n hO
 now:=fun d O w hK=>by
  obtain ⟨⟨E,g,hd,h1,hs⟩,hlt⟩:=hK
  refine ((now_sm hp).use g (RL_cons.2 ⟨ptr_R h1,by simp [RL]⟩)).mono fun e w' he=>?_
  obtain ⟨o,ho,E',x,hle,rfl,hrx,g1,g2⟩:=he
  simp only [nowM,List.mem_singleton] at ho
  subst ho
  obtain ⟨hK,hF⟩:=core_after (d':=d) (ren:=renOf reO) hp like_core g g1 g2 hle fit_now (noRo_ok (by decide +kernel)) h1 hs hlt (env_renOf (by decide) rfl) (fun id a b=>env_renOf (by omega) rfl)
   ⟨⟨(env_renOf (by decide) rfl).trans (hle _ _ hd.on.1),(env_renOf (by decide) rfl).trans (hle _ _ hd.on.2.1),(env_renOf (by decide) rfl).trans (hle _ _ hd.on.2.2)⟩,
    ⟨(env_renOf (by decide) rfl).trans (hle _ _ hd.ro.1),(env_renOf (by decide) rfl).trans (hle _ _ hd.ro.2.1),(env_renOf (by decide) rfl).trans (hle _ _ hd.ro.2.2)⟩,
    ⟨(env_renOf (by decide) rfl).trans (hle _ _ hd.wt.1),(env_renOf (by decide) rfl).trans (hle _ _ hd.wt.2.1),(env_renOf (by decide) rfl).trans (hle _ _ hd.wt.2.2)⟩⟩
  obtain ⟨mz,em,bm⟩:=g1.tab 214 0 4 (by decide +kernel)
  obtain ⟨cz,ec,bc⟩:=g1.tab 215 1 3 (by decide +kernel)
  have hout:∀ i,(0,[A i])∈coreFacts→∃ z,E' i=some (.z z)∧-mostOf pc≤z∧z≤mostOf pc:=by
   intro i hi
   obtain ⟨vs,h1,z,rfl,h2,h3⟩:=g1.facts _ hi
   exact ⟨z,rA' (RL_cons.1 h1).1,h2,h3⟩
  obtain ⟨z0,ez0,bz0⟩:=hout 220 (hasF_mem (by decide +kernel))
  obtain ⟨z1,ez1,bz1⟩:=hout 221 (hasF_mem (by decide +kernel))
  obtain ⟨z2,ez2,bz2⟩:=hout 222 (hasF_mem (by decide +kernel))
  obtain ⟨z3,ez3,bz3⟩:=hout 223 (hasF_mem (by decide +kernel))
  simp only [tlN,R] at hrx
  obtain ⟨cs,rfl,hl⟩:=hrx
  have hi:∀ {i:Nat} {x:SV},nth (nowHead++[.nils,.nils]++rep 32 byteCell) i=some x→∃ v,cs[i]?=some v∧R E' x v:=fun {i x} h=>by
   obtain ⟨v,h1,h2⟩:=RL_nth hl h
   exact ⟨v,by simpa using h1,h2⟩
  obtain ⟨v0,c0,h0⟩:=hi (i:=0) (x:=A 214) rfl
  obtain ⟨v1,c1,h1'⟩:=hi (i:=1) (x:=A 215) rfl
  obtain ⟨v2,c2,h2⟩:=hi (i:=2) (x:=A 220) rfl
  obtain ⟨v3,c3,h3⟩:=hi (i:=3) (x:=A 221) rfl
  obtain ⟨v4,c4,h4⟩:=hi (i:=4) (x:=A 222) rfl
  obtain ⟨v5,c5,h5⟩:=hi (i:=5) (x:=A 223) rfl
  obtain ⟨v12,c12,h12⟩:=hi (i:=12) (x:=.nils) rfl
  obtain ⟨v13,c13,h13⟩:=hi (i:=13) (x:=.nils) rfl
  rw [rA em h0] at c0
  rw [rA ec h1'] at c1
  rw [rA ez0 h2] at c2
  rw [rA ez1 h3] at c3
  rw [rA ez2 h4] at c4
  rw [rA ez3 h5] at c5
  simp only [R] at h12 h13
  subst h12 h13
  refine ⟨⟨d,_,[],rfl,hK,hF,?_,rfl,rfl⟩,cs,rfl,c12,c13⟩
  exact ⟨cs,none,0,0,none,0,0,[],rfl,by have:=RL_length hl; rw [Array.length_toList] at this; exact this,allCell_one hl rfl,⟨mz,cz,z0,z1,z2,z3,c0,c1,c2,c3,c4,c5,bm,bc,bz0,bz1,bz2,bz3⟩,c12,c13,by omega,by omega,rfl,⟨by simp,fun h=>absurd h (by omega)⟩,by simp,⟨by simp [rcCells],fun h=>absurd h (by omega)⟩,by simp,(fun x hx=>by cases hx),(fun x hx=>by cases hx)⟩
 item:=fun d O w l code base ln cap hK l1 l3 c0 c1 h32 hc hb hbo=>by
  obtain ⟨E2,g,hd,h1,hs,hr⟩:=item_begin (l:=l) hp hK c0 c1 h32 hc hb hbo
  refine core_call hp (item33_sm hp l l1 l3) (fun o ho=>?_) like_item g hd h1 hs hK.lt hr
  simp only [itemM,List.mem_cons,List.not_mem_nil,or_false] at ho
  rcases ho with rfl | rfl
  ·exact out_e0
  ·exact out_en l l1 l3
 sample:=fun d O w v gv x1 x2 x3 x4 hK hx=>by
  obtain ⟨⟨E,g,hd,h1,hs⟩,hlt⟩:=hK
  refine core_call hp (sample_sm hp) (fun o ho=>?_) like_core g hd h1 hs hlt (RL_cons.2 ⟨ptr_R h1,RL_cons.2 ⟨?_,by simp [RL]⟩⟩)
  ·simp only [sampleM,List.mem_singleton] at ho
   subst ho
   exact out_e0
  ·simp only [sampV,R]
   exact ⟨_,rfl,RL_cons.2 ⟨bool_R,RL_cons.2 ⟨i64_R (hx _ (by simp)),RL_cons.2 ⟨i64_R (hx _ (by simp)),RL_cons.2 ⟨i64_R (hx _ (by simp)),RL_cons.2 ⟨i64_R (hx _ (by simp)),RL_cons.2 ⟨bool_R,by simp [RL]⟩⟩⟩⟩⟩⟩⟩
 health:=fun d O w b hK=>by
  obtain ⟨⟨E,g,hd,h1,hs⟩,hlt⟩:=hK
  cases b with
  | false =>
   refine core_call hp (healthF_sm hp) (fun o ho=>?_) like_core g hd h1 hs hlt (RL_cons.2 ⟨ptr_R h1,RL_cons.2 ⟨by simp [R],by simp [RL]⟩⟩)
   simp only [healthF,List.mem_singleton] at ho
   subst ho
   exact out_e0
  | true =>
   refine core_call hp (healthT_sm hp) (fun o ho=>?_) like_core g hd h1 hs hlt (RL_cons.2 ⟨ptr_R h1,RL_cons.2 ⟨by simp [R],by simp [RL]⟩⟩)
   simp only [healthT,List.mem_singleton] at ho
   subst ho
   exact out_l10
 tick:=fun d O w hK=>by
  obtain ⟨⟨E,g,hd,h1,hs⟩,hlt⟩:=hK
  refine core_call hp (tick36_sm hp) (fun o ho=>?_) like_core g hd h1 hs hlt (RL_cons.2 ⟨ptr_R h1,by simp [RL]⟩)
  simp only [tick36M,List.mem_singleton] at ho
  subst ho
  exact out_l22
theorem KC.rng {wL:World} {Bc:Nat} {d:Num} {O:Foot} (h:KC pc wL Bc d O w):(∀ s,1≤s→s≤3→get3 d.on s=0∨get3 d.on s=1)∧∀ s,1≤s→s≤3→get3 d.wt s=0∨get3 d.wt s=1:=by
 obtain ⟨⟨E,g,hd,_,_⟩,_⟩:=h
 have bit:∀ i z,lk coreSt.tab i=some (0,1)→E i=some (.z z)→z=0∨z=1:=fun i z hi he=>by
  obtain ⟨y,h1,h2,h3⟩:=g.tab _ _ _ hi
  rw [he] at h1
  cases h1
  omega
 exact ⟨fun s a b=>cases3 (P:=fun s=>get3 d.on s=0∨get3 d.on s=1) a b (bit 231 _ (by decide +kernel) hd.on.1) (bit 232 _ (by decide +kernel) hd.on.2.1) (bit 233 _ (by decide +kernel) hd.on.2.2),
  fun s a b=>cases3 (P:=fun s=>get3 d.wt s=0∨get3 d.wt s=1) a b (bit 237 _ (by decide +kernel) hd.wt.1) (bit 238 _ (by decide +kernel) hd.wt.2.1) (bit 239 _ (by decide +kernel) hd.wt.2.2)⟩
theorem step_on (f:Fd) (r:Rc):(f.step r).on=if r.kind=3 then put3 f.on r.src 1 else if r.kind=4∨r.kind=5 then put3 f.on r.src 0 else f.on:=by
 unfold Fd.step
 split
 ·rfl
 ·split
  ·rfl
  ·split
   ·rfl
   ·split <;> rfl
theorem on_zero {s:Int} (hs:1≤s∧s≤3):∀ (rs:List Rc) (f:Fd),get3 f.on s=0→(∀ r∈rs,r.kind=3→r.src≠s)→get3 (rs.foldl Fd.step f).on s=0
 | [],f,h,_=>h
 | r::rs,f,h,hn=>by
  refine on_zero hs rs _ ?_ fun q hq=>hn q (List.mem_cons_of_mem _ hq)
  rw [step_on]
  split
  ·rename_i hk
   rw [get3_put' hs,if_neg (fun e=>hn r List.mem_cons_self hk e.symm)]
   exact h
  ·split
   ·rw [get3_put' hs]
    split
    ·rfl
    ·exact h
   ·exact h
theorem fold_app (d d1:Num) (r1 r2:List Rc) (ho:(fold d r1).on=d1.on) (hw:(fold d r1).wt=d1.wt):(fold d (r1++r2)).on=(fold d1 r2).on∧(fold d (r1++r2)).wt=(fold d1 r2).wt:=by
 have key:∀ (l:List Rc) (f g:Fd),f.on=g.on→f.wt=g.wt→(l.foldl Fd.step f).on=(l.foldl Fd.step g).on∧(l.foldl Fd.step f).wt=(l.foldl Fd.step g).wt:=by
  intro l
  induction l with
  | nil=>intro f g h1 h2; exact ⟨h1,h2⟩
  | cons r l ih =>
   intro f g h1 h2
   refine ih _ _ ?_ ?_
   ·rw [step_on,step_on,h1]
   ·unfold Fd.step
    split
    ·exact h2
    ·split
     ·simp only [h2]
     ·split
      ·simp only [h2]
      ·split
       ·simp only [h2]
       ·exact h2
 unfold fold
 rw [List.foldl_append]
 exact key r2 _ _ ho hw
theorem Rel.refl (who:Int→Prop) (d:Num):Rel false who d d [] :=
 ⟨rfl,fun _=>rfl,fun _ _ _=>Int.le_refl _,fun r hr=>by (cases hr),fun _ _ _=>.inr (.inr rfl)⟩
theorem Rel.trans {who:Int→Prop} {d d1 d2:Num} {r1 r2:List Rc} (h1:Rel false who d d1 r1) (h2:Rel false who d1 d2 r2):Rel false who d d2 (r1++r2):=by
 obtain ⟨f1,f2⟩:=fold_app d d1 r1 r2 h1.on (h1.wt rfl)
 refine ⟨f1.trans h2.on,fun _=>f2.trans (h2.wt rfl),fun s a b=>?_,fun r hr hk hs=>?_,fun s a b=>?_⟩
 ·rw [f2,h2.wt rfl]
  exact Int.le_refl _
 ·rcases List.mem_append.1 hr with hr | hr
  ·exact h1.en r hr hk hs
  ·exact h2.en r hr hk hs
 ·rcases h2.role s a b with ⟨r,hr,hk⟩ | h | h
  ·exact .inl ⟨r,List.mem_append_right _ hr,hk⟩
  ·exact .inr (.inl h)
  ·rcases h1.role s a b with ⟨r,hr,hk⟩ | h' | h'
   ·exact .inl ⟨r,List.mem_append_left _ hr,hk⟩
   ·by_cases hl:∃ r∈r2,r.kind=3∧r.src=s
    ·obtain ⟨r,hr,hk⟩:=hl
     exact .inl ⟨r,List.mem_append_right _ hr,hk⟩
    ·refine .inr (.inl ?_)
     have:=on_zero ⟨a,b⟩ r2 ⟨d1.on,d1.wt,(0,0,0)⟩ h' fun r hr hk e=>hl ⟨r,hr,hk,e⟩
     have e:=h2.on
     unfold fold at e
     rw [e] at this
     exact this
   ·exact .inr (.inr (h.trans h'))
end SE
end
section
namespace Mc
open Go.RowKit Go.Shelf
open SE (Rc rcCells i64)
attribute [local go_sem] Oper.semAt_some
set_option maxHeartbeats 2000000
variable {δ:Type} {K:δ→Foot→World→Prop} {mo:Int} {RB:Nat→δ→δ→List Rc→Prop} {RS RT:δ→δ→List Rc→Prop} {RH:Bool→δ→δ→List Rc→Prop} {Bc:Nat}
structure Went (K:δ→Foot→World→Prop) (J:List Rc→Foot→World→Prop) (R:δ→δ→List Rc→Prop) (d:δ) (rs:List Rc) (O A:Foot) (w w':World):Prop where
 ex:∃ d' O' rs' A',K d' O' w'∧J (rs++rs') A' w'∧R d d' rs'∧(∀ n,A' n→¬ O' n)∧(∀ n,O' n→O n∨(w.heap.size≤n∧n<w'.heap.size))∧(∀ n,A' n→A n∨(w.heap.size≤n∧n<w'.heap.size))
 frm:Frm (fun n=>O n∨A n) w w'
theorem Went.one (hC:CoreI Bc K mo RB RS RT RH) {J J':List Rc→Foot→World→Prop} (hlt:∀ rs A w n,J rs A w→A n→n<w.heap.size) {R:δ→δ→List Rc→Prop} {d d':δ} {rs rs':List Rc} {O A:Foot} {w w' w'':World}
  (hJ:J rs A w) (hd:∀ n,A n→¬ O n) (hK':K d' (grow O w w') w') (hF:Frm O w w') (hR:R d d' rs') (hJ':J' (rs++rs') (grow A w' w'') w'') (hF':Frm A w' w''):Went K J' R d rs O A w w'':=by
 have hdj:∀ n,grow O w w' n→¬ A n:=fun n hn ha=>by
  rcases hn with hn | hn
  ·exact hd n ha hn
  ·have:=hlt _ _ _ _ hJ ha; omega
 refine ⟨⟨d',grow O w w',rs',grow A w' w'',hC.keep _ _ _ _ hK' (hF'.keeps (fun n hn=>hC.lt _ _ _ n hK' hn) hdj),hJ',hR,?_,?_,?_⟩,?_⟩
 ·intro n hn ho
  rcases hn with hn | hn
  ·exact hdj n ho hn
  ·have:=hC.lt _ _ _ n hK' ho; omega
 ·intro n hn
  rcases hn with hn | hn
  ·exact .inl hn
  ·exact .inr ⟨hn.1,by have:=hF'.size; omega⟩
 ·intro n hn
  rcases hn with hn | hn
  ·exact .inl hn
  ·exact .inr ⟨by have:=hF.size; omega,hn.2⟩
 ·refine ⟨Nat.le_trans hF.size hF'.size,fun n hn hno=>?_,hF'.os.trans hF.os,hF'.tape.trans hF.tape,hF'.output.trans hF.output⟩
  rw [hF'.same n (Nat.lt_of_lt_of_le hn hF.size) (fun h=>hno (.inr h)),hF.same n hn (fun h=>hno (.inl h))]
theorem comes_tick (hC:CoreI Bc K mo RB RS RT RH) {L:Nat} {J:Nat→List Rc→Foot→World→Prop} (hR:RoundI mo Fence.wide 2 L J) (M be bm m:Nat) (w:World) (d:δ) (O A:Foot) (rs:List Rc)
  (hK:K d O w) (hJ:J m rs A w) (hd:∀ n,A n→¬ O n) (hm0:m≤1000) (hlen:rs.length≤100000)
  (hm:w.cell? ⟨bm,0,none⟩=some (.pointer (some ⟨M,0,none⟩))) (hM:w.cell? ⟨M,0,none⟩=some (.pointer (some ⟨Bc,0,none⟩))) (hk:w.cell? ⟨be,0,none⟩=some (.int .i64 3)) :
  CallsIn Fence.wide 2 Tryz.prog 31 #[.func (.yield L) #[] #[],.pointer (some ⟨be,0,none⟩),.pointer (some ⟨bm,0,none⟩)] w fun e w'=>(∃ v,e=.returned v)∧Went K (J (m+1)) RT d rs O A w w':=by
 have hT:=hC.tick d O w hK
 refine callsIn_of_wp Tryz.func31 rfl trivial ?_ rfl
 simp only [Tryz.ntmps31,List.size_toArray,List.length_cons,List.length_nil,Nat.reduceAdd,Nat.reduceSub,Array.replicate_succ,Array.replicate_zero,List.push_toArray,List.append_toArray,List.nil_append,List.cons_append]
 gi_wp2
 refine ⟨trivial,?_⟩
 refine (callsIn_wide.2 hT).mono ?_
 rintro e w' ⟨d',t,rs',rfl,hK',hF,hTo,hRel⟩
 have hJ':=hR.keep _ _ _ _ _ hJ (hF.keeps (fun n hn=>hR.lt _ _ _ _ n hJ hn) hd)
 obtain ⟨fn,tmps,assign,body,hy,hRd⟩:=hR.round _ _ _ _ _ t rs' hJ' hm0 hlen hTo (fun n hn hg=>by rcases hg with hg | hg; exact hd n hn hg; have:=hR.lt _ _ _ _ n hJ hn; omega)
 gi_wp2
 refine hRd.mono ?_
 rintro e w'' ⟨rfl,hJ'',hF''⟩
 gi_wp2
 go_end0
 exact ⟨⟨_,rfl⟩,Went.one hC (hR.lt m) hJ hd hK' hF hRel hJ'' hF''⟩
theorem Same.drew (O:Foot) (w:World):Same O w w.drew:=⟨Nat.le_refl _,fun _ _=>rfl,rfl,rfl,rfl⟩
theorem Went.drew {K:δ→Foot→World→Prop} {J:List Rc→Foot→World→Prop} {R:δ→δ→List Rc→Prop} {d:δ} {rs:List Rc} {O A:Foot} {w w':World} (h:Went K J R d rs O A w.drew w'):Went K J R d rs O A w w' :=
 ⟨h.ex,⟨h.frm.size,h.frm.same,h.frm.os,h.frm.tape,h.frm.output⟩⟩
theorem comes_health (hC:CoreI Bc K mo RB RS RT RH) {L:Nat} {J:Nat→List Rc→Foot→World→Prop} (hR:RoundI mo Fence.wide 2 L J) (M be bm m:Nat) (w:World) (d:δ) (O A:Foot) (rs:List Rc) (b:Bool)
  (hK:K d O w) (hJ:J m rs A w) (hd:∀ n,A n→¬ O n) (hm0:m≤1000) (hlen:rs.length≤100000)
  (hm:w.cell? ⟨bm,0,none⟩=some (.pointer (some ⟨M,0,none⟩))) (hM:w.cell? ⟨M,0,none⟩=some (.pointer (some ⟨Bc,0,none⟩))) (hk:w.cell? ⟨be,0,none⟩=some (.int .i64 2)) (hb:w.cell? ⟨be,9,none⟩=some (.bool b)) :
  CallsIn Fence.wide 2 Tryz.prog 31 #[.func (.yield L) #[] #[],.pointer (some ⟨be,0,none⟩),.pointer (some ⟨bm,0,none⟩)] w fun e w'=>(∃ v,e=.returned v)∧Went K (J (m+1)) (RH b) d rs O A w w':=by
 have hK:=hC.keep _ _ _ _ hK (Same.drew O w)
 have hJ:=hR.keep _ _ _ _ _ hJ (Same.drew A w)
 have hT:=hC.health d O w.drew b hK
 refine callsIn_of_wp Tryz.func31 rfl trivial ?_ rfl
 simp only [Tryz.ntmps31,List.size_toArray,List.length_cons,List.length_nil,Nat.reduceAdd,Nat.reduceSub,Array.replicate_succ,Array.replicate_zero,List.push_toArray,List.append_toArray,List.nil_append,List.cons_append]
 gi_wp2
 have hmx:Tryz.prog.follows .mixedOrders=true:=by kernel_rfl
 gi_region_with_o (first
  | (refine ⟨trivial,?_⟩; refine (callsIn_wide.2 hT).mono ?_; rintro e w' ⟨d',t,rs',rfl,hK',hF,hTo,hRel⟩; have hJ':=hR.keep _ _ _ _ _ hJ (hF.keeps (fun n hn=>hR.lt _ _ _ _ n hJ hn) hd); obtain ⟨fn,tmps,assign,body,hy,hRd⟩:=hR.round _ _ _ _ _ t rs' hJ' hm0 hlen hTo (fun n hn hg=>by rcases hg with hg | hg; exact hd n hn hg; have:=hR.lt _ _ _ _ n hJ hn; omega))
  | (refine hRd.mono ?_; rintro e w'' ⟨rfl,hJ'',hF''⟩))
 all_goals (go_end0; exact ⟨⟨_,rfl⟩,(Went.one hC (hR.lt m) hJ hd hK' hF hRel hJ'' hF'').drew⟩)
theorem comes_sample (hC:CoreI Bc K mo RB RS RT RH) {L:Nat} {J:Nat→List Rc→Foot→World→Prop} (hR:RoundI mo Fence.wide 2 L J) (M be bm m:Nat) (w:World) (d:δ) (O A:Foot) (rs:List Rc) (v g:Bool) (x1 x2 x3 x4:Int)
  (hK:K d O w) (hJ:J m rs A w) (hd:∀ n,A n→¬ O n) (hm0:m≤1000) (hlen:rs.length≤100000)
  (hm:w.cell? ⟨bm,0,none⟩=some (.pointer (some ⟨M,0,none⟩))) (hM:w.cell? ⟨M,0,none⟩=some (.pointer (some ⟨Bc,0,none⟩))) (hk:w.cell? ⟨be,0,none⟩=some (.int .i64 1)) (h3:w.cell? ⟨be,3,none⟩=some (.bool v)) (h4:w.cell? ⟨be,4,none⟩=some (.int .i64 x1)) (h5:w.cell? ⟨be,5,none⟩=some (.int .i64 x2)) (h6:w.cell? ⟨be,6,none⟩=some (.int .i64 x3)) (h7:w.cell? ⟨be,7,none⟩=some (.int .i64 x4)) (h8:w.cell? ⟨be,8,none⟩=some (.bool g))
  (hin:∀ x∈[x1,x2,x3,x4],-9223372036854775808≤x∧x≤9223372036854775807) :
  CallsIn Fence.wide 2 Tryz.prog 31 #[.func (.yield L) #[] #[],.pointer (some ⟨be,0,none⟩),.pointer (some ⟨bm,0,none⟩)] w fun e w'=>(∃ v,e=.returned v)∧Went K (J (m+1)) RS d rs O A w w':=by
 have hK:=hC.keep _ _ _ _ hK (Same.drew O w)
 have hJ:=hR.keep _ _ _ _ _ hJ (Same.drew A w)
 have hT:=hC.sample d O w.drew v g x1 x2 x3 x4 hK hin
 refine callsIn_of_wp Tryz.func31 rfl trivial ?_ rfl
 simp only [Tryz.ntmps31,List.size_toArray,List.length_cons,List.length_nil,Nat.reduceAdd,Nat.reduceSub,Array.replicate_succ,Array.replicate_zero,List.push_toArray,List.append_toArray,List.nil_append,List.cons_append]
 gi_wp2
 have hmx:Tryz.prog.follows .mixedOrders=true:=by kernel_rfl
 gi_region_with_o (first
  | (refine ⟨trivial,?_⟩; refine (callsIn_wide.2 hT).mono ?_; rintro e w' ⟨d',t,rs',rfl,hK',hF,hTo,hRel⟩; have hJ':=hR.keep _ _ _ _ _ hJ (hF.keeps (fun n hn=>hR.lt _ _ _ _ n hJ hn) hd); obtain ⟨fn,tmps,assign,body,hy,hRd⟩:=hR.round _ _ _ _ _ t rs' hJ' hm0 hlen hTo (fun n hn hg=>by rcases hg with hg | hg; exact hd n hn hg; have:=hR.lt _ _ _ _ n hJ hn; omega))
  | (refine hRd.mono ?_; rintro e w'' ⟨rfl,hJ'',hF''⟩))
 all_goals (go_end0; exact ⟨⟨_,rfl⟩,(Went.one hC (hR.lt m) hJ hd hK' hF hRel hJ'' hF'').drew⟩)
end Mc
end
section
namespace Mc
open Go.RowKit Go.Shelf
open SE (Rc rcCells i64)
open Crc Fr St
attribute [local go_sem] Oper.semAt_some
set_option maxHeartbeats 2000000
variable {δ:Type} {K:δ→Foot→World→Prop} {mo:Int} {RB:Nat→δ→δ→List Rc→Prop} {RS RT:δ→δ→List Rc→Prop} {RH:Bool→δ→δ→List Rc→Prop} {Bc:Nat}
theorem Went.none {K:δ→Foot→World→Prop} {J:List Rc→Foot→World→Prop} {R:δ→δ→List Rc→Prop} {d:δ} {rs:List Rc} {O A:Foot} {w:World} (hK:K d O w) (hJ:J rs A w) (hd:∀ n,A n→¬ O n) (hr:R d d []):Went K J R d rs O A w w :=
 ⟨⟨d,O,[],A,hK,by simpa using hJ,hr,hd,fun n h=>.inl h,fun n h=>.inl h⟩,Frm.refl _ _⟩
theorem comes_else {L:Nat} (be bm:Nat) (w:World) (z:Int) (hk:w.cell? ⟨be,0,none⟩=some (.int .i64 z)) (h0:z≠0) (h1:z≠1) (h2:z≠2) (h3:z≠3) :
  CallsIn Fence.wide 2 Tryz.prog 31 #[.func (.yield L) #[] #[],.pointer (some ⟨be,0,none⟩),.pointer (some ⟨bm,0,none⟩)] w fun e w'=>(∃ v,e=.returned v)∧w'=w:=by
 refine callsIn_of_wp Tryz.func31 rfl trivial ?_ rfl
 simp only [Tryz.ntmps31,List.size_toArray,List.length_cons,List.length_nil,Nat.reduceAdd,Nat.reduceSub,Array.replicate_succ,Array.replicate_zero,List.push_toArray,List.append_toArray,List.nil_append,List.cons_append]
 gi_wp2
 go_end0
 exact ⟨⟨_,rfl⟩,rfl⟩
theorem comes_far {L:Nat} (be bm:Nat) (w:World) (s:Int) (hk:w.cell? ⟨be,0,none⟩=some (.int .i64 0)) (hs:w.cell? ⟨be,1,none⟩=some (.int .i64 s)) (h:s<1∨3<s) :
  CallsIn Fence.wide 2 Tryz.prog 31 #[.func (.yield L) #[] #[],.pointer (some ⟨be,0,none⟩),.pointer (some ⟨bm,0,none⟩)] w fun e w'=>(∃ v,e=.returned v)∧w'=w:=by
 refine callsIn_of_wp Tryz.func31 rfl trivial ?_ rfl
 simp only [Tryz.ntmps31,List.size_toArray,List.length_cons,List.length_nil,Nat.reduceAdd,Nat.reduceSub,Array.replicate_succ,Array.replicate_zero,List.push_toArray,List.append_toArray,List.nil_append,List.cons_append]
 gi_wp2
 all_goals (refine bodyPost_ret (results_none rfl _ _ _) rfl ?_; exact ⟨⟨_,rfl⟩,rfl⟩)
end Mc
end
section
namespace Mc
open Go.RowKit Go.Shelf
open SE (Rc rcCells i64)
open Crc Fr St
attribute [local go_sem] Oper.semAt_some
set_option maxHeartbeats 2000000
variable {δ:Type} {K:δ→Foot→World→Prop} {mo:Int} {RB:Nat→δ→δ→List Rc→Prop} {RS RT:δ→δ→List Rc→Prop} {RH:Bool→δ→δ→List Rc→Prop} {Bc:Nat}
theorem cell_lt {w:World} {a:Addr} {v:Value} (h:w.cell? a=some v):a.block<w.heap.size:=by
 rcases Nat.lt_or_ge a.block w.heap.size with h1 | h1
 ·exact h1
 ·unfold World.cell? at h
  rw [Array.getElem?_eq_none h1] at h
  cases h
theorem grown_same {w w1:World} {g:Nat} (h:w.grownBy w1 (some g)) {O:Foot} (hlt:∀ n,O n→n<w.heap.size) (hg:¬ O g):Same O w w1 :=
 ⟨h.size,fun n hn=>h.block n (hlt n hn) (fun e=>by cases e; exact hg hn),h.os,h.tape,h.output⟩
def ItemAt (w:World) (base gi k:Nat):Prop:=∃ (cd:Nat) (Ab:Option Addr) (kb cb:Nat),w.cell? ⟨gi,k*2,none⟩=some (.int .i64 cd)∧w.cell? ⟨gi,k*2+1,none⟩=some (.slice Ab kb cb)∧cd≤100∧kb≤32∧kb≤cb∧BRow w Ab kb∧∀ x,Ab=some x→base≤x.block
theorem loop_step (hC:CoreI Bc K mo RB RS RT RH) {J J':List Rc→Foot→World→Prop} (hJlt:∀ rs A w n,J rs A w→A n→n<w.heap.size) (hRBt:∀ l d1 d2 d3 r1 r2,RB l d1 d2 r1→RB l d2 d3 r2→RB l d1 d3 (r1++r2))
  {s:Nat} {d d1 d2:δ} {rs rs1 rs2:List Rc} {O A O1 A1:Foot} {w1 wr wa w2 w3:World}
  (hJ1:J (rs++rs1) A1 wa) (hRB1:RB s d d1 rs1) (hd1:∀ n,A1 n→¬ O1 n) (hO1:∀ n,O1 n→O n∨w1.heap.size≤n) (hA1:∀ n,A1 n→A n∨w1.heap.size≤n) (hF1:Frm (fun n=>O n∨A n) w1 wr)
  (hwa:Frm (fun _=>False) wr wa) (hK2:K d2 (grow O1 wa w2) w2) (hF2:Frm O1 wa w2) (hR2:RB s d1 d2 rs2) (hJ3:J' (rs++rs1++rs2) (grow A1 w2 w3) w3) (hF3:Frm A1 w2 w3) :
  ∃ d' rs' O' A',K d' O' w3∧J' (rs++rs') A' w3∧RB s d d' rs'∧rs'.length=rs1.length+rs2.length∧(∀ n,A' n→¬ O' n)∧(∀ n,O' n→O n∨w1.heap.size≤n)∧(∀ n,A' n→A n∨w1.heap.size≤n)∧Frm (fun n=>O n∨A n) w1 w3:=by
 obtain ⟨⟨d',O',rs',A',k1,k2,k3,k4,k5,k6⟩,k7⟩:=Went.one (R:=fun a b r=>a=d1∧b=d2∧r=rs2) hC hJlt hJ1 hd1 hK2 hF2 ⟨rfl,rfl,rfl⟩ hJ3 hF3
 obtain ⟨_,rfl,rfl⟩:=k3
 have hsz:=hF1.size
 have hsa:=hwa.size
 refine ⟨_,rs1++rs',O',A',k1,by rw [← List.append_assoc]; exact k2,hRBt _ _ _ _ _ _ hRB1 hR2,by simp,k4,fun n hn=>?_,fun n hn=>?_,?_⟩
 ·rcases k5 n hn with h | h
  ·exact hO1 n h
  ·exact .inr (by omega)
 ·rcases k6 n hn with h | h
  ·exact hA1 n h
  ·exact .inr (by omega)
 ·refine ⟨Nat.le_trans hsz (Nat.le_trans hsa k7.size),fun n hn hno=>?_,(k7.os.trans hwa.os).trans hF1.os,(k7.tape.trans hwa.tape).trans hF1.tape,(k7.output.trans hwa.output).trans hF1.output⟩
  rw [k7.same n (by omega) (fun h=>by
   rcases h with h | h
   ·rcases hO1 n h with h | h
    ·exact hno (.inl h)
    ·omega
   ·rcases hA1 n h with h | h
    ·exact hno (.inr h)
    ·omega),hwa.same n (by omega) (fun h=>h),hF1.same n hn hno]
theorem item_at {w:World} {base:Nat} {A:Option Addr} {k c:Nat} {its:List It} (h:OwnI w base (g5 w base) A k c its) {i:Nat} (hi:i<k) (hb:∀ it∈its,it.1≤100∧it.2.length≤32):∃ gi,A=some ⟨gi,0,none⟩∧gi<w.heap.size∧base≤gi∧ItemAt w base gi i:=by
 have hl:=h.length
 obtain ⟨vs,ho,hv⟩:=h
 obtain ⟨ad,e1,e2,e3⟩:=(Reads.of_own ho).2 (by omega)
 rcases ho.2 with ⟨_,h0⟩ | ⟨g,cap,cur,hv',hg,hh,_⟩
 ·omega
 ·injection hv' with hA _ _
  subst hA
  injection e1 with e1
  subst e1
  refine ⟨g,rfl,e2,hg,?_⟩
  have hit:its[i]?=some (its[i]'(by omega)):=List.getElem?_eq_getElem (by omega)
  obtain ⟨c1,A2,k2,cc,c2,hB⟩:=Its.get (c:=its[i].1) (b:=its[i].2) hv hit
  have hbb:=hb _ (List.getElem_mem (by omega:i<its.length))
  have q1:=e3 _ _ c1
  have q2:=e3 _ _ c2
  rw [SE.add_none,Nat.zero_add] at q1 q2
  refine ⟨its[i].1,A2,k2,cc,q1,q2,hbb.1,by have:=hB.1; omega,hB.2.1,⟨?_,fun x hx=>(hB.2.2.2.2 x hx).2.2⟩,fun x hx=>(hB.2.2.2.2 x hx).2.1.1⟩
  cases A2 with
  | none =>
   show k2=0
   rcases Nat.eq_zero_or_pos k2 with h0 | h0
   ·exact h0
   ·obtain ⟨ad,h1,_⟩:=hB.2.2.2.1 h0
    cases h1
  | some a =>
   obtain ⟨f1,⟨_,cur2,m2,f2⟩,f3⟩:=hB.2.2.2.2 a rfl
   refine ⟨f1,cur2,5,m2,f2,fun j hj=>?_⟩
   obtain ⟨ad,g1,_,_,g4⟩:=hB.2.2.2.1 (by omega)
   injection g1 with g1
   subst g1
   have hbj:its[i].2[j]?=some (its[i].2[j]'(by have:=hB.1; omega)):=List.getElem?_eq_getElem (by have:=hB.1; omega)
   have:=g4 j _ hbj
   rw [SE.add_spot f1,SE.cell_at f2] at this
   exact ⟨_,Int.natCast_nonneg _,by have:=(its[i].2[j]'(by have:=hB.1; omega)).toNat_lt; omega,this⟩
theorem next_ok:∀ l:List UInt8,(Fr.next l).code≤100∧(Fr.next l).body.length≤32
 | []=>by simp [Fr.next,Fr.wait]
 | [c]=>by simp only [Fr.next]; split <;> simp [Fr.wait,Fr.skip]
 | [c,v]=>by
  simp only [Fr.next]
  split
  ·split <;> simp [Fr.wait,Fr.reject]
  ·simp [Fr.skip]
 | c::v::n::r=>by
  simp only [Fr.next]
  split
  ·split
   ·rcases Fr.behind_cases n r with ⟨e,_⟩ | ⟨e,_⟩ | ⟨h1,h2,e | e⟩ <;> rw [e]
    ·simp [Fr.reject]
    ·simp [Fr.wait]
    ·simp only [Fr.frame,List.length_take]; omega
    ·simp [Fr.reject]
   ·simp [Fr.reject]
  ·simp [Fr.skip]
theorem next_item (l:List UInt8):∀ it∈item (Fr.next l),it.1≤100∧it.2.length≤32:=by
 intro it hit
 have h:=next_ok l
 unfold item at hit
 split at hit
 ·simp only [List.mem_singleton] at hit
  subst hit
  exact ⟨by omega,h.2⟩
 ·split at hit
  ·simp only [List.mem_singleton] at hit
   subst hit
   exact ⟨h.1,by simp⟩
  ·simp at hit
theorem scan_items (n:Nat):∀ l:List UInt8,l.length≤n→(∀ it∈(scan l).1,it.1≤100∧it.2.length≤32)∧(scan l).1.length≤l.length:=by
 induction n with
 | zero =>
  intro l hl
  have:l=[]:=List.eq_nil_of_length_eq_zero (by omega)
  subst this
  rw [scan_nil]
  simp
 | succ n ih =>
  intro l hl
  by_cases h:(Fr.next l).kind=0
  ·rw [scan_wait h]; simp
  ·rw [scan_step h]
   obtain ⟨h1,h2⟩:=goes_size l h
   obtain ⟨k1,k2⟩:=ih (l.drop (Fr.next l).size) (by rw [List.length_drop]; omega)
   refine ⟨fun it hit=>?_,?_⟩
   ·rcases List.mem_append.1 hit with hit | hit
    ·exact next_item l it hit
    ·exact k1 it hit
   ·have:(item (Fr.next l)).length≤1:=by unfold item; split <;> (try split) <;> simp
    rw [List.length_drop] at k2
    simp only [List.length_append]
    omega
end Mc
end
section
namespace Mc
open Go.RowKit Go.Shelf
open SE (Rc rcCells i64)
open Crc Fr St
attribute [local go_sem] Oper.semAt_some
set_option maxHeartbeats 2000000
variable {δ:Type} {K:δ→Foot→World→Prop} {mo:Int} {RB:Nat→δ→δ→List Rc→Prop} {RS RT:δ→δ→List Rc→Prop} {RH:Bool→δ→δ→List Rc→Prop} {Bc:Nat}
def SFoot (w:World) (g:Nat):Foot:=fun n=>n=g∨∃ a k c,w.cell? ⟨g,0,none⟩=some (.slice (some a) k c)∧a.block=n
theorem strm_keep {w w':World} {base g:Nat} {rest:List UInt8} (h:Strm w base g rest) (hsz:w.heap.size≤w'.heap.size) (hs:∀ n,SFoot w g n→w'.heap[n]?=w.heap[n]?):Strm w' base g rest:=by
 obtain ⟨h1,h2,A,k,c,h3,h4,h5⟩:=h
 have hg:=hs g (.inl rfl)
 refine ⟨Nat.lt_of_lt_of_le h1 hsz,(World.frozen?_of_block (a:=⟨g,0,none⟩) hg).trans h2,A,k,c,(World.cell?_of_block (a:=⟨g,0,none⟩) hg).trans h3,h4,?_⟩
 rcases h5 with h5 | ⟨g',cap,cur,hv,hb,hh,r⟩
 ·exact .inl h5
 ·injection hv with hv _ hc
  subst hv
  subst hc
  exact .inr ⟨g',c,cur,rfl,hb,(hs g' (.inr ⟨_,_,_,h3,rfl⟩)).trans hh,r⟩
theorem strm_foot {w:World} {base g:Nat} {rest:List UInt8} (h:Strm w base g rest) {n:Nat} (hn:SFoot w g n):n=g∨(base≤n∧n<w.heap.size):=by
 rcases hn with rfl | ⟨a,k',c',h6,rfl⟩
 ·exact .inl rfl
 ·obtain ⟨h1,h2,A,k,c,h3,h4,h5⟩:=h
  rw [h3] at h6
  injection h6 with h6
  injection h6 with e1 e2 e3
  subst e1
  rcases h5 with ⟨h5,_⟩ | ⟨g',cap,cur,hv,hb,hh,r⟩
  ·cases h5
  ·injection hv with hv _ _
   injection hv with hv
   subst hv
   exact .inr ⟨hb,(Array.getElem?_eq_some_iff.1 hh).1⟩
structure WentB (K:δ→Foot→World→Prop) (J:List Rc→Foot→World→Prop) (R:δ→δ→List Rc→Prop) (d:δ) (rs:List Rc) (O A:Foot) (g:Nat) (w w':World):Prop where
 ex:∃ d' O' rs' A',K d' O' w'∧J (rs++rs') A' w'∧R d d' rs'∧rs'.length≤8000∧(∀ n,A' n→¬ O' n)∧(∀ n,O' n→O n∨w.heap.size≤n)∧(∀ n,A' n→A n∨w.heap.size≤n)∧∀ n,SFoot w' g n→¬ O' n∧¬ A' n
 str:∃ rest,Strm w' w.heap.size g rest∧rest.length≤40
 frm:Frm (fun n=>O n∨A n∨n=g) w w'
theorem BRow.keep {w w':World} {A:Option Addr} {k:Nat} (h:BRow w A k) (hsz:w.heap.size≤w'.heap.size) (hs:∀ x,A=some x→w'.heap[x.block]?=w.heap[x.block]?):BRow w' A k:=by
 refine ⟨?_,fun x hx=>Nat.lt_of_lt_of_le (h.2 x hx) hsz⟩
 have:=h.1
 cases A with
 | none=>exact this
 | some a =>
  obtain ⟨h1,vs,e,fr,h2,h3⟩:=this
  exact ⟨h1,vs,e,fr,(hs a rfl).trans h2,h3⟩
theorem frm_alloc (w:World) (o:Obj):Frm (fun _=>False) w (w.alloc o).drew :=
 ⟨by show w.heap.size≤(w.heap.push o).size; rw [Array.size_push]; omega,fun n hn _=>Below.heap_alloc w o n hn,rfl,rfl,rfl⟩
theorem Frm.none_keeps {A:Foot} {w w':World} (h:Frm (fun _=>False) w w') (hlt:∀ n,A n→n<w.heap.size):Same A w w':=h.keeps hlt fun _ _ h=>h
def BInv (K:δ→Foot→World→Prop) (J:Nat→List Rc→Foot→World→Prop) (m:Nat) (R:δ→δ→List Rc→Prop) (d:δ) (rs:List Rc) (O A:Foot) (w1:World) (k:Nat) (wr:World):Prop :=
 ∃ d1 rs1 O1 A1,K d1 O1 wr∧J (m+k) (rs++rs1) A1 wr∧R d d1 rs1∧rs1.length≤50*k∧(∀ n,A1 n→¬ O1 n)∧(∀ n,O1 n→O n∨w1.heap.size≤n)∧(∀ n,A1 n→A n∨w1.heap.size≤n)∧Frm (fun n=>O n∨A n) w1 wr
theorem told_len {O:Foot} {w:World} {t:Value} {rs:List Rc} (h:ToldV mo O w t rs):rs.length≤50:=by
 obtain ⟨cs,sb,sl,sc,rb,rl,rc,xs,_,_,_,_,_,_,_,h1,h2,_⟩:=h.ex
 omega
theorem wentB_end {J:List Rc→Foot→World→Prop} {R:δ→δ→List Rc→Prop} {d d1:δ} {rs rs1:List Rc} {O A O1 A1:Foot} {g:Nat} {w w1 wr:World} {rest:List UInt8} {k:Nat}
  (hOl:∀ n,O n→n<w.heap.size) (hAl:∀ n,A n→n<w.heap.size) (hgl:g<w.heap.size) (hgo:¬ O g∧¬ A g) (hgr:w.drew.grownBy w1 (some g)) (hst:Strm w1 w.heap.size g rest) (hrl:rest.length≤40)
  (hK:K d1 O1 wr) (hJ:J (rs++rs1) A1 wr) (hR:R d d1 rs1) (hl:rs1.length≤50*k) (hk:k≤160) (hd:∀ n,A1 n→¬ O1 n) (hO:∀ n,O1 n→O n∨w1.heap.size≤n) (hA:∀ n,A1 n→A n∨w1.heap.size≤n) (hF:Frm (fun n=>O n∨A n) w1 wr) :
  WentB K J R d rs O A g w wr:=by
 have hsz:w.heap.size≤w1.heap.size:=hgr.size
 have hfoot:∀ n,SFoot w1 g n→¬ O n∧¬ A n∧n<w1.heap.size:=fun n hn=>by
  rcases strm_foot hst hn with rfl | ⟨h1,h2⟩
  ·exact ⟨hgo.1,hgo.2,by omega⟩
  ·exact ⟨fun h=>by have:=hOl n h; omega,fun h=>by have:=hAl n h; omega,h2⟩
 have hsame:∀ n,SFoot w1 g n→wr.heap[n]?=w1.heap[n]?:=fun n hn=>hF.same n (hfoot n hn).2.2 fun h=>h.elim (hfoot n hn).1 (hfoot n hn).2.1
 refine ⟨⟨d1,O1,rs1,A1,hK,hJ,hR,by omega,hd,fun n hn=>?_,fun n hn=>?_,fun n hn=>?_⟩,⟨rest,strm_keep hst hF.size hsame,hrl⟩,?_⟩
 ·rcases hO n hn with h | h
  ·exact .inl h
  ·exact .inr (by omega)
 ·rcases hA n hn with h | h
  ·exact .inl h
  ·exact .inr (by omega)
 ·have hn1:SFoot w1 g n:=by
   rcases hn with h | ⟨a,k,c,h,h2⟩
   ·exact .inl h
   ·exact .inr ⟨a,k,c,(World.cell?_of_block (a:=⟨g,0,none⟩) (hsame g (.inl rfl))).symm.trans h,h2⟩
  have hq:=hfoot n hn1
  exact ⟨fun h=>by
   rcases hO n h with h | h
   ·exact hq.1 h
   ·omega,fun h=>by
   rcases hA n h with h | h
   ·exact hq.2.1 h
   ·omega⟩
 ·refine ⟨Nat.le_trans hsz hF.size,fun n hn hno=>?_,hF.os.trans hgr.os,hF.tape.trans hgr.tape,hF.output.trans hgr.output⟩
  rw [hF.same n (by omega) (fun h=>hno (h.elim .inl fun h=>.inr (.inl h)))]
  exact hgr.block n hn fun e=>hno (.inr (.inr (by cases e; rfl)))
end Mc
end
section
namespace Mc
open Go.RowKit Go.Shelf
open SE (Rc rcCells i64)
open Crc Fr St
attribute [local go_sem] Oper.semAt_some
set_option maxHeartbeats 2000000
variable {δ:Type} {K:δ→Foot→World→Prop} {mo:Int} {RB:Nat→δ→δ→List Rc→Prop} {RS RT:δ→δ→List Rc→Prop} {RH:Bool→δ→δ→List Rc→Prop} {Bc:Nat}
noncomputable def findR (i:Nat):Code→Code
 | .region id ops d=>bif Nat.beq id i then .region id ops d else .skip
 | .seq a b=>match findR i a with
  | .skip=>findR i b
  | c=>c
 | .cond _ a b=>match findR i a with
  | .skip=>findR i b
  | c=>c
 | .block _ b=>findR i b
 | .loop b=>findR i b
 | _=>.skip
noncomputable def bodyOf (f:Func):Code:=match f.body with
 | some c=>c
 | none=>.skip
noncomputable def reg6:Code:=findR 6 (bodyOf Tryz.f31)
theorem reg6_ok {L be bm b5 M Bc:Nat} {l cd:Int} {Ab:Option Addr} {kb cb:Nat} {P1:Value→World→Prop} {P2:World→Prop} {QN:Act→World→Prop} {w:World} {x3 x4 x6 x7 x8 x9 x10 x11 x12 x13 x14 x15 x16 x17 x18 x19 x20 x21 x22 x23 x24 x25 x26 x27 x28 x29 x30 x31 x32 x33 x34 x35 x36 x37 x38 x39 x40 x41 x42 x43 x44 x45 x46 x47 x48 x49 x50 x51 x52 x53 x54 x55 x56 x57 x58 x59 x60 x61 x62 x63 x64 x65 x66 x67 x68 x69 x70 x71 x72 x73 x74 x75 x76:Value}
  (hmx:Tryz.prog.follows .mixedOrders=true)
  (h1:w.drew.cell? ⟨bm,0,none⟩=some (.pointer (some ⟨M,0,none⟩))) (h2:w.drew.cell? ⟨M,0,none⟩=some (.pointer (some ⟨Bc,0,none⟩))) (h3:w.drew.cell? ⟨be,1,none⟩=some (.int .i64 l))
  (h4:w.drew.cell? ⟨b5,0,none⟩=some (.int .i64 cd)) (h5:w.drew.cell? ⟨b5,1,none⟩=some (.slice Ab kb cb))
  (hI:Calls Tryz.prog 33 #[.pointer (some ⟨Bc,0,none⟩),.int .i64 l,.agg #[.int .i64 cd,.slice Ab kb cb]] w.drew fun e w2=>∃ t,e=.returned t∧P1 t w2)
  (hY:∀ t w2,P1 t w2→YieldAt Fence.wide 1 Tryz.prog L #[t] w2 fun e w3=>e=.returned (.bool true)∧P2 w3)
  (hQ:∀ t w3,P2 w3→QN { tmps:=#[.func (.yield L) #[] #[],.pointer (some ⟨be,0,none⟩),.pointer (some ⟨bm,0,none⟩),x3,x4,.pointer (some ⟨b5,0,none⟩),x6,x7,x8,x9,x10,x11,x12,x13,x14,x15,x16,x17,x18,x19,x20,x21,x22,x23,x24,x25,x26,x27,x28,x29,x30,x31,x32,x33,.func (.yield L) #[] #[],.pointer (some ⟨M,0,none⟩),.pointer (some ⟨M,0,none⟩),.pointer (some ⟨M,0,none⟩),.pointer (some ⟨Bc,0,none⟩),.pointer (some ⟨be,1,none⟩),.int .i64 l,.agg #[.int .i64 cd,.slice Ab kb cb],t,.bool true,.bool false,x45,x46,x47,x48,x49,x50,x51,x52,x53,x54,x55,x56,x57,x58,x59,x60,x61,x62,x63,x64,x65,x66,x67,x68,x69,x70,x71,x72,x73,x74,x75,x76],defers:=[] } w3) :
  Code.wpIn Fence.wide 2 Tryz.prog reg6 (Exit.then QN fun _ _ _=>False) { tmps:=#[.func (.yield L) #[] #[],.pointer (some ⟨be,0,none⟩),.pointer (some ⟨bm,0,none⟩),x3,x4,.pointer (some ⟨b5,0,none⟩),x6,x7,x8,x9,x10,x11,x12,x13,x14,x15,x16,x17,x18,x19,x20,x21,x22,x23,x24,x25,x26,x27,x28,x29,x30,x31,x32,x33,x34,x35,x36,x37,x38,x39,x40,x41,x42,x43,x44,x45,x46,x47,x48,x49,x50,x51,x52,x53,x54,x55,x56,x57,x58,x59,x60,x61,x62,x63,x64,x65,x66,x67,x68,x69,x70,x71,x72,x73,x74,x75,x76],defers:=[] } w:=by
 conv in reg6=>whnf
 gi_region_with_o (first
  | (refine ⟨trivial,?_⟩; refine (callsIn_wide.2 hI).mono ?_; rintro e w2 ⟨t,rfl,hP⟩; obtain ⟨fn,tmps,assign,body,hy,hRd⟩:=hY t w2 hP)
  | (refine hRd.mono ?_; rintro e w3 ⟨rfl,hP2⟩))
 all_goals exact hQ _ _ hP2
end Mc
end
end Go.Proofs.YtdgejnakakjgfaaGreatDoor
