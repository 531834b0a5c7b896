/- Heads, tags, nonces, proofs, keys: contracts, by runs. The walk of frame.Next, through frame.body. -/
import Derived.Test.YtdgejnakakjgfaaGreatDoorR10
import Derived.Test.YtdgejnakakjgfaaGreatDoorR07
set_option linter.unusedVariables false
set_option linter.unusedSimpArgs false
set_option maxRecDepth 100000
namespace Go.Proofs.YtdgejnakakjgfaaGreatDoor
section
namespace SE
open Go.RowKit
set_option maxHeartbeats 0
variable {X:Px} {own0:Nat→Prop} {w0 w:World} {E:Env} {st:SE.St}
theorem G.addBytes (g:G X own0 w0 E st w) {base:Option Addr} {ln cap:Nat} {len:SI} (hlen:∀ E,SIok E len ln) (hc:ln≤cap) (hb:ByteRow w base ln)
  (hs:∀ x,base=some x→x.block<w.heap.size∧∀ bid blk,lk st.heap bid=some blk→E bid≠some (.blk x.block)) :
  ∃ E',E.le E'∧R E' (.sl st.nid) (.slice base ln cap)∧G X own0 w0 E' { st with sls:=(st.nid,.bytes len)::st.sls,nid:=st.nid+1 } w:=by
 have hle:=Env.le_upd (x:=EV.sl base ln cap) g.nid_none
 have g1:=g.mono hle (fun id hid=>Env.upd_ne _ _ (by omega)) (Nat.le_succ _) (dom_upd g _)
 have hself:(E.upd st.nid (.sl base ln cap)) st.nid=some (.sl base ln cap):=Env.upd_self _ _ _
 refine ⟨E.upd st.nid (.sl base ln cap),hle,by simp only [R]; exact ⟨base,ln,cap,hself,rfl⟩,?_⟩
 exact g1.addSl (id:=st.nid) (i:=.bytes len) ⟨base,ln,cap,hself,hlen _,hc,hb,fun x hx=>⟨(hs x hx).1,fun bid blk hl=>by
  have hid:=g.hid hl
  rw [Env.upd_ne _ _ (by omega)]
  exact (hs x hx).2 bid blk hl⟩⟩
theorem cl_run (hT:TabOk X) (hP:PkOk X) (hR:RkOk X) (hK:∀ own0 w0,KOk X own0 w0) (hPP:X.P=Tryz.prog) {fuel gi:Nat} {args l:List SV} {S:SE.St} (hcl:clL l=true)
  (e:runIs (.agg l) (run X.T fuel gi args S)=true) {w:World} {E:Env} (g:G X (fun _=>False) w E S w) {vals:Array Value} (hr:RL E args vals.toList) :
  Calls Tryz.prog gi vals w fun e w'=>∃ cs:Array Value,e=.returned (.agg cs)∧RL noE l cs.toList∧Below w.heap.size w w':=by
 cases hrun:run X.T fuel gi args S with
 | none=>rw [hrun] at e; cases e
 | some out =>
  rw [hrun] at e
  rw [← hPP]
  refine (run_ok hT hP hR (hK _ w) fuel hrun g hr).mono fun e' w' he=>?_
  obtain ⟨o,ho,E',x,h1,rfl,h3,h4⟩:=he
  have:=allIs_ok e o ho
  rw [this] at h3
  simp only [R] at h3
  obtain ⟨cs,rfl,hl⟩:=h3
  exact ⟨cs,rfl,clL_ok hcl hl,below_of h4⟩
noncomputable abbrev XK (ks:List (Nat×(List SV→SE.St→Option Out))):Px:=Xw (kL ks)
def nextA:List SV:=[bytesS 32,.agg [I64,I64,I64,I64,I64,I64]]
noncomputable abbrev kN1:List (Nat×(List SV→SE.St→Option Out)):=[(97,kSum)]
theorem k1_ok:∀ own0 w0,KOk (XK kN1) own0 w0:=fun own0 w0=>kok (X:=XK kN1) (ks:=kN1) ⟨k_sum rfl rfl,trivial⟩ rfl own0 w0
theorem next_run:runIs (.agg (rep 32 byteCell)) (run (XK kN1).T 60 65 nextA emptySt)=true:=by decide +kernel
theorem next_cl:ClOk 65 nextA (rep 32 byteCell):=fun w hw vals hr=>cl_run (X:=XK kN1) tabw pkw rkw k1_ok rfl (bytes_cl 32) next_run (g_empty hw rfl) hr
def twoSt (a b c d:Nat):SE.St:=⟨[],[],[(1,.bytes (.r (Int.ofNat c) (Int.ofNat d))),(0,.bytes (.r (Int.ofNat a) (Int.ofNat b)))],2,[]⟩
def oneSt (a b:Nat):SE.St:=⟨[],[],[(0,.bytes (.r (Int.ofNat a) (Int.ofNat b)))],1,[]⟩
theorem si_r {a b n:Nat} (h1:a≤n) (h2:n≤b):∀ E,SIok E (.r (Int.ofNat a) (Int.ofNat b)) n:=fun E=>by
 simp only [SIok,Int.ofNat_eq_natCast]
 omega
theorem g_one (hw:GlW w) (hX:X.T.gl=glT) {a b:Nat} {base:Option Addr} {ln cap:Nat} (h1:a≤ln) (h2:ln≤b) (hc:ln≤cap) (hb:ByteRow w base ln) (hs:∀ x,base=some x→x.block<w.heap.size) :
  ∃ E,R E (.sl 0) (.slice base ln cap)∧G X (fun _=>False) w E (oneSt a b) w:=by
 obtain ⟨E,_,h,g⟩:=(g_empty (X:=X) hw hX).addBytes (len:=.r (Int.ofNat a) (Int.ofNat b)) (si_r h1 h2) hc hb fun x hx=>⟨hs x hx,fun bid blk hl=>by simp [emptySt,lk] at hl⟩
 exact ⟨E,h,g⟩
theorem g_two (hw:GlW w) (hX:X.T.gl=glT) {a b c d:Nat} {base:Option Addr} {ln cap:Nat} (h1:a≤ln) (h2:ln≤b) (hc:ln≤cap) (hb:ByteRow w base ln) (hs:∀ x,base=some x→x.block<w.heap.size)
  {base':Option Addr} {ln' cap':Nat} (h1':c≤ln') (h2':ln'≤d) (hc':ln'≤cap') (hb':ByteRow w base' ln') (hs':∀ x,base'=some x→x.block<w.heap.size) :
  ∃ E,R E (.sl 0) (.slice base ln cap)∧R E (.sl 1) (.slice base' ln' cap')∧G X (fun _=>False) w E (twoSt a b c d) w:=by
 obtain ⟨E,hr,g⟩:=g_one (X:=X) hw hX h1 h2 hc hb hs
 obtain ⟨E',hle,h,g'⟩:=g.addBytes (len:=.r (Int.ofNat c) (Int.ofNat d)) (si_r h1' h2') hc' hb' fun x hx=>⟨hs' x hx,fun bid blk hl=>by simp [oneSt,lk] at hl⟩
 exact ⟨E',hr.mono hle,h,g'⟩
noncomputable def ofR (n:Nat):Bool:=runIs (.agg (rep 32 byteCell)) (run (XK kN1).T 60 202 [.sl 0,.sl 1] (twoSt 0 64 n n))
theorem of_a:allN ofR 2 5=true:=by decide +kernel
theorem of_b:allN ofR 7 5=true:=by decide +kernel
theorem of_c:allN ofR 12 5=true:=by decide +kernel
theorem of_d:allN ofR 17 5=true:=by decide +kernel
theorem of_e:allN ofR 22 5=true:=by decide +kernel
theorem ofR_ok {n:Nat} (h1:2≤n) (h2:n≤26):ofR n=true:=by
 by_cases a:n<7
 ·exact allN_ok of_a n h1 (by omega)
 ·by_cases b:n<12
  ·exact allN_ok of_b n (by omega) (by omega)
  ·by_cases c:n<17
   ·exact allN_ok of_c n (by omega) (by omega)
   ·by_cases d:n<22
    ·exact allN_ok of_d n (by omega) (by omega)
    ·exact allN_ok of_e n (by omega) (by omega)
theorem of_any (hw:GlW w) {base:Option Addr} {ln cap:Nat} (h2:ln≤64) (hc:ln≤cap) (hb:ByteRow w base ln) (hs:∀ x,base=some x→x.block<w.heap.size)
  {base':Option Addr} {ln' cap':Nat} (h1':2≤ln') (h2':ln'≤26) (hc':ln'≤cap') (hb':ByteRow w base' ln') (hs':∀ x,base'=some x→x.block<w.heap.size) :
  Calls Tryz.prog 202 #[.slice base ln cap,.slice base' ln' cap'] w fun e w'=>∃ cs:Array Value,e=.returned (.agg cs)∧RL noE (rep 32 byteCell) cs.toList∧Below w.heap.size w w':=by
 obtain ⟨E,r1,r2,g⟩:=g_two (X:=XK kN1) hw rfl (a:=0) (b:=64) (c:=ln') (d:=ln') (Nat.zero_le _) h2 hc hb hs (Nat.le_refl _) (Nat.le_refl _) hc' hb' hs'
 exact cl_run (X:=XK kN1) tabw pkw rkw k1_ok rfl (bytes_cl 32) (ofR_ok h1' h2') g (RL_cons.2 ⟨r1,RL_cons.2 ⟨r2,by simp [RL]⟩⟩)
def lenIs (l:Option SI) (a b:Int):Bool :=
 match l with
 | some (.r lo hi)=>decide (a≤lo)&&decide (hi≤b)
 | _=>false
theorem lenIs_ok (g:G X own0 w0 E st w) {x:SV} {u:Value} {a b:Int} (h:lenIs (byteIn st x) a b=true) (hr:R E x u) :
  ∃ base ln c,u=.slice base ln c∧a≤(ln:Int)∧(ln:Int)≤b∧ln≤c∧ByteRow w base ln∧∀ p,base=some p→p.block<w.heap.size:=by
 unfold lenIs at h
 split at h
 ·rename_i lo hi hb
  simp only [Bool.and_eq_true,decide_eq_true_eq] at h
  obtain ⟨base,ln,c,h1,h2,h3,h4,h5⟩:=byteIn_ok g hb hr
  simp only [SIok] at h2
  exact ⟨base,ln,c,h1,by omega,by omega,h3,h4,h5⟩
 ·cases h
def kOf (args:List SV) (st:SE.St):Option Out :=
 match args with
 | [k,b]=>bif lenIs (byteIn st k) 0 64&&lenIs (byteIn st b) 2 26 then some [(bytesS 32,st)] else none
 | _=>none
theorem k_of (hP:X.P=Tryz.prog) (hX:X.T.gl=glT):KOne X 202 kOf:=by
 intro own0 w0 args st out h E w vals g hr
 unfold kOf at h
 split at h
 ·rename_i k b
  obtain ⟨x,y,e,hx,hy⟩:=RL2 hr
  rw [arr_of e]
  simp only [cond_eq_ite,Bool.and_eq_true] at h
  split at h
  ·rename_i hc
   cases h
   obtain ⟨b1,l1,c1,rfl,q1,q2,q3,q4,q5⟩:=lenIs_ok g hc.1 hx
   obtain ⟨b2,l2,c2,rfl,r1,r2,r3,r4,r5⟩:=lenIs_ok g hc.2 hy
   rw [hP]
   refine (of_any (glW_of g hX) (by omega) q3 q4 q5 (by omega) (by omega) r3 r4 r5).mono fun e w' he=>?_
   obtain ⟨cs,rfl,k1,k2⟩:=he
   exact ⟨_,List.mem_cons_self,E,_,Env.le_refl E,rfl,by simp only [bytesS,R]; exact ⟨cs,rfl,clL_ok (bytes_cl 32) k1⟩,g.below k2⟩
  ·cases h
 ·cases h
noncomputable abbrev kN2:List (Nat×(List SV→SE.St→Option Out)):=[(202,kOf)]
theorem k2_ok:∀ own0 w0,KOk (XK kN2) own0 w0:=fun own0 w0=>kok (X:=XK kN2) (ks:=kN2) ⟨k_of rfl rfl,trivial⟩ rfl own0 w0
def kKey (as_:List SV) (n:Nat) (args:List SV) (st:SE.St):Option Out :=
 match args with
 | k::l=>bif lenIs (byteIn st k) 0 64&&instA st ⟨0,[]⟩ as_ l then some [(bytesS n,st)] else none
 | _=>none
noncomputable def keyR (gi:Nat) (as_:List SV) (n:Nat):Bool:=runIs (.agg (rep n byteCell)) (run (XK kN2).T 60 gi (.sl 0::as_) (oneSt 0 64))
theorem k_key (hP:X.P=Tryz.prog) (hX:X.T.gl=glT) {gi:Nat} {as_:List SV} {n:Nat} (hcl:∀ E vs,RL noE as_ vs→RL E as_ vs) (e:keyR gi as_ n=true):KOne X gi (kKey as_ n):=by
 intro own0 w0 args st out h E w vals g hr
 unfold kKey at h
 split at h
 ·rename_i k l
  simp only [RL] at hr
  obtain ⟨x,vs,hv,hx,hl⟩:=hr
  simp only [cond_eq_ite,Bool.and_eq_true] at h
  split at h
  ·rename_i hc
   cases h
   obtain ⟨b1,l1,c1,rfl,q1,q2,q3,q4,q5⟩:=lenIs_ok g hc.1 hx
   have h1:=instA_ok g hc.2 hl
   rw [envOf_nil] at h1
   obtain ⟨E1,r1,g1⟩:=g_one (X:=XK kN2) (glW_of g hX) rfl (a:=0) (b:=64) (Nat.zero_le _) (by omega) q3 q4 q5
   rw [hP]
   refine (cl_run (X:=XK kN2) tabw pkw rkw k2_ok rfl (bytes_cl n) e g1 (vals:=vals) (by rw [hv]; exact RL_cons.2 ⟨r1,hcl E1 vs h1⟩)).mono fun e w' he=>?_
   obtain ⟨cs,rfl,k1,k2⟩:=he
   exact ⟨_,List.mem_cons_self,E,_,Env.le_refl E,rfl,by simp only [bytesS,R]; exact ⟨cs,rfl,clL_ok (bytes_cl n) k1⟩,g.below k2⟩
  ·cases h
 ·cases h
theorem nonce_run:keyR 150 [I64,I64] 8=true:=by decide +kernel
theorem proof_run:keyR 153 [I64,I64,bytesS 8] 8=true:=by decide +kernel
theorem key_run:keyR 155 [I64,I64,bytesS 8] 32=true:=by decide +kernel
theorem ints_cl:∀ E vs,RL noE [I64,I64] vs→RL E [I64,I64] vs:=fun E vs h=>clL_ok rfl h
theorem ints8_cl:∀ E vs,RL noE [I64,I64,bytesS 8] vs→RL E [I64,I64,bytesS 8] vs:=fun E vs h=>by
 obtain ⟨x,y,z,rfl,hx,hy,hz⟩:=RL3 h
 refine RL_cons.2 ⟨clV_ok rfl hx,RL_cons.2 ⟨clV_ok rfl hy,RL_cons.2 ⟨?_,by simp [RL]⟩⟩⟩
 simp only [bytesS,R] at hz ⊢
 obtain ⟨cs,rfl,hl⟩:=hz
 exact ⟨cs,rfl,clL_ok (bytes_cl 8) hl⟩
end SE
end
section
open Go.RowKit Crc Fr
theorem Reads.open_ {w:World} {B n:Nat} {A:Option Addr} {l:List UInt8} (h:Reads w B 1 A n (l.map bv)) (hn:0<n) :
  ∃ b off,A=some ⟨b,off,none⟩∧b<B∧∀ k u,l[k]?=some u→w.cell? ⟨b,off+k,none⟩=some (.int .u8 u.toNat):=by
 have hl:l.length=n:=by simpa using h.1
 obtain ⟨ad,rfl,hb,hc⟩:=h.2 hn
 obtain ⟨b,off,spot⟩:=ad
 have h0:=hc 0 (bv l[0]) (by rw [List.getElem?_map,List.getElem?_eq_getElem]; rfl)
 have hs:spot=none:=by simpa [Addr.add] using World.cell?_spot h0
 subst hs
 refine ⟨b,off,rfl,hb,fun k u hu=>?_⟩
 have:=hc k (bv u) (by rw [List.getElem?_map,hu]; rfl)
 have e:(⟨b,off,none⟩:Addr).add k=⟨b,off+k,none⟩:=by unfold Addr.add; split <;> simp_all
 rw [e] at this
 exact this
theorem Reads.mk_ {w:World} {B n b off:Nat} {l:List UInt8} (hl:l.length=n) (hb:b<B) (h:∀ k u,l[k]?=some u→w.cell? ⟨b,off+k,none⟩=some (.int .u8 u.toNat)):Reads w B 1 (some ⟨b,off,none⟩) n (l.map bv):=by
 refine ⟨by simpa using hl,fun _=>⟨_,rfl,hb,fun j u hu=>?_⟩⟩
 rw [List.getElem?_map,Option.map_eq_some_iff] at hu
 obtain ⟨x,hx,rfl⟩:=hu
 have e:(⟨b,off,none⟩:Addr).add j=⟨b,off+j,none⟩:=by unfold Addr.add; split <;> simp_all
 rw [e]; exact h j x hx
theorem below_drewN {B:Nat} {a w:World} (h:Below B a w) (n:Nat):Below B a (w.drewN n):=⟨h.os,h.tape,h.output,h.size,h.block⟩
theorem OwnB.base {w:World} {base base' k c:Nat} {A:Option Addr} {l:List UInt8} (h:OwnB w base A k c l) (hb:base'≤base):OwnB w base' A k c l :=
 ⟨h.1,h.2.imp id (fun ⟨g,cap,cur,h1,h2,h3⟩=>⟨g,cap,cur,h1,Nat.le_trans hb h2,h3⟩)⟩
theorem OwnB.setBelow {w:World} {base k c:Nat} {A:Option Addr} {l:List UInt8} (h:OwnB w base A k c l) {p:Addr} (hp:p.block<base) (u:Value):OwnB (w.setCell p u) base A k c l :=
 ownsRow_setCell_below h hp u
theorem size22 (w:World):(sizeOf (Tryz.prog.elem 23)).run Tryz.prog w=.ok 1 w:=by
 have e:Tryz.prog.elem 23=5:=by kernel_rfl
 obtain ⟨i0,hi0,hz0,hz1,hz2⟩:=info_parts u8_info
 rw [e]
 simp [sizeOf,typeInfo,hi0,hz1]
theorem elem22:Tryz.prog.underlying 23=some (.slice (Tryz.prog.elem 23)):=by kernel_rfl
theorem slice_lh (b off n c lo hi:Nat) (w:World) (L H:Int) (hL:L=lo) (hH:H=hi) (h0:0<lo) (h1:lo≤hi) (h2:hi≤c) (h3:lo<c) :
  (Instr.slice 23 (.slice (some ⟨b,off,none⟩) n c) (some (.int .i64 L)) (some (.int .i64 H)) none).run Tryz.prog w=.ok (.slice (some ⟨b,off+lo,none⟩) (hi - lo) (c - lo)) w:=by
 subst hL hH
 rw [run_slice_lh w 23 _ n c elem22 .i64 .i64 lo hi (by omega) (by omega) (by omega),size22]
 simp only [Result.andThen,sliced,Int.toNat_natCast]
 rw [if_neg (by omega)]
 simp [Addr.add,show lo≠0 by omega]
theorem or_bytes (p q:UInt8):bits BinOp.or IntKind.u16 (IntKind.u16.wrap (IntKind.u16.wrap (p.toNat:Int)*256)) (IntKind.u16.wrap (q.toNat:Int))=((up p ^^^ low q).toNat:Int):=by
 have hq:IntKind.u16.wrap (q.toNat:Int)=((low q).toNat:Int):=by
  have h1:=q.toNat_lt
  have h2:(low q).toNat=q.toNat:=by
   unfold low
   rw [BitVec.toNat_setWidth]
   have:q.toBitVec.toNat=q.toNat:=rfl
   omega
  show (q.toNat:Int) % 65536=_
  omega
 rw [up_u16,hq,bits_or_u16]
 have e:up p ||| low q=up p ^^^ low q:=by
  apply BitVec.eq_of_getLsbD_eq
  intro i hi
  simp only [up,low,BitVec.getLsbD_or,BitVec.getLsbD_xor,BitVec.getLsbD_shiftLeft,BitVec.getLsbD_setWidth]
  by_cases h:i<8
  ·simp [h]
  ·simp [h,BitVec.getLsbD_of_ge q.toBitVec i (by omega)]
 rw [e]
set_option maxHeartbeats 1000000 in
theorem body_sum (B b off:Nat) (n c:Nat) (nb:UInt8) (s:List UInt8) (p q:UInt8) (w:World)
  (h2:∀ o,(w.alloc o).cell? ⟨b,off+2,none⟩=some (.int .u8 nb.toNat)) (hs:Reads w B 1 (some ⟨b,off+1,none⟩) (nb.toNat+2) (s.map bv)) (hB:B≤w.heap.size) (hn:nb.toNat+5≤n) (hc:n≤c) (hm:c≤maxLen) (h32:nb.toNat≤32)
  (hp:∀ o,(w.alloc o).cell? ⟨b,off+(3+nb.toNat),none⟩=some (.int .u8 p.toNat)) (hq:∀ o,(w.alloc o).cell? ⟨b,off+(3+nb.toNat+1),none⟩=some (.int .u8 q.toNat))
  (x:Nat) (hx:(up p ^^^ low q).toNat=x) (hne:(((Crc.sum s).toNat:Int) != (x:Int))=true) :
  Calls Tryz.prog 98 #[.slice (some ⟨b,off,none⟩) n c] w fun e w'=>e=.returned (.agg #[.int .i64 3,.int .i64 1,.int .i64 12,.slice none 0 0])∧Below w.heap.size w w':=by
 unfold maxLen at hm
 have hsl:∀ w,(Instr.slice 23 (.slice (some ⟨b,off,none⟩) n c) (some (.int .i64 1)) (some (.int .i64 (3+(nb.toNat:Int)))) none).run Tryz.prog w=.ok (.slice (some ⟨b,off+1,none⟩) (nb.toNat+2) (c - 1)) w:=by
  intro w
  have:=slice_lh b off n c 1 (3+nb.toNat) w 1 (3+nb.toNat) rfl (by omega) (by omega) (by omega) (by omega) (by omega)
  rw [show 3+nb.toNat - 1=nb.toNat+2 by omega] at this
  exact this
 have hs2:=Lib.hid (fun o=>hs.alloc hB o)
 have hw:IntKind.i64.wrap (3+(nb.toNat:Int)+1)=3+(nb.toNat:Int)+1:=IntWalk.i64_in _ (by omega)
 have ht1:(3+(nb.toNat:Int)).toNat=3+nb.toNat:=by omega
 have ht2:(3+(nb.toNat:Int)+1).toNat=3+nb.toNat+1:=by omega
 have hi1:(3+(nb.toNat:Int))<n:=by omega
 have hi2:(3+(nb.toNat:Int)+1)<n:=by omega
 have hi3:0≤(3+(nb.toNat:Int)):=by omega
 have hi4:0≤(3+(nb.toNat:Int)+1):=by omega
 have hor:=or_bytes p q
 rw [hx] at hor
 clear hx
 clear hs
 go_enter Tryz.func98,Tryz.ntmps98
 go_wp2
 go_quiet ((go_at_call 143; exact Calls.quiet_of_same ((sum_any _ _ _ _ _ _ (Reads.drewN (hs2.out _) _) (by unfold maxLen; omega)).mono fun _ _ h=>⟨h.1,h.2.symm⟩)))
 go_wp2_with (go_at_call 99; (with_reducible refine (reject_any _ _).mono ?_); rintro e w1 ⟨rfl,hb⟩; obtain ⟨hcb,hfb⟩:=bcell hb; have hz:w.heap.size+1≤w1.heap.size:=by have:=hb.size; simp at this; omega)
 have hB1:Below w.heap.size w w1:=(below_drewN ((Below.refl w.heap.size w).alloc (Nat.le_refl _) _) _).trans (hb.mono (by simp))
 exact bodyPost_ret (v:=.agg #[.int .i64 3,.int .i64 1,.int .i64 12,.slice none 0 0]) (by simp [results,Tryz.results98,go_sem,hcb]) rfl
  ⟨rfl,by (iterate 4 refine Below.setCell ?_ (by exact Nat.le_refl _) _); exact hB1⟩
set_option maxHeartbeats 1000000 in
theorem body_ok (B b off:Nat) (n c:Nat) (nb:UInt8) (s:List UInt8) (p q:UInt8) (w:World)
  (h2:∀ o,(w.alloc o).cell? ⟨b,off+2,none⟩=some (.int .u8 nb.toNat)) (hs:Reads w B 1 (some ⟨b,off+1,none⟩) (nb.toNat+2) (s.map bv)) (hB:B≤w.heap.size) (hn:nb.toNat+5≤n) (hc:n≤c) (hm:c≤maxLen) (h32:nb.toNat≤32)
  (hp:∀ o,(w.alloc o).cell? ⟨b,off+(3+nb.toNat),none⟩=some (.int .u8 p.toNat)) (hq:∀ o,(w.alloc o).cell? ⟨b,off+(3+nb.toNat+1),none⟩=some (.int .u8 q.toNat)) (bd:List UInt8) (hbd:Reads w B 1 (some ⟨b,off+3,none⟩) nb.toNat (bd.map bv))
  (x:Nat) (hx:(up p ^^^ low q).toNat=x) (hne:(((Crc.sum s).toNat:Int) != (x:Int))=false) :
  Calls Tryz.prog 98 #[.slice (some ⟨b,off,none⟩) n c] w fun e w'=>∃ A' k' c',e=.returned (.agg #[.int .i64 2,.int .i64 (nb.toNat+5:Nat),.int .i64 0,.slice A' k' c'])∧OwnB w' w.heap.size A' k' c' bd∧Below w.heap.size w w':=by
 have hbd2:=Lib.hid (fun o=>hbd.alloc hB o)
 have hnb:IntKind.i64.wrap (3+(nb.toNat:Int)+2)=3+(nb.toNat:Int)+2:=IntWalk.i64_in _ (by omega)
 clear hbd
 unfold maxLen at hm
 have hsl:∀ w,(Instr.slice 23 (.slice (some ⟨b,off,none⟩) n c) (some (.int .i64 1)) (some (.int .i64 (3+(nb.toNat:Int)))) none).run Tryz.prog w=.ok (.slice (some ⟨b,off+1,none⟩) (nb.toNat+2) (c - 1)) w:=by
  intro w
  have:=slice_lh b off n c 1 (3+nb.toNat) w 1 (3+nb.toNat) rfl (by omega) (by omega) (by omega) (by omega) (by omega)
  rw [show 3+nb.toNat - 1=nb.toNat+2 by omega] at this
  exact this
 have hs2:=Lib.hid (fun o=>hs.alloc hB o)
 have hw:IntKind.i64.wrap (3+(nb.toNat:Int)+1)=3+(nb.toNat:Int)+1:=IntWalk.i64_in _ (by omega)
 have ht1:(3+(nb.toNat:Int)).toNat=3+nb.toNat:=by omega
 have ht2:(3+(nb.toNat:Int)+1).toNat=3+nb.toNat+1:=by omega
 have hi1:(3+(nb.toNat:Int))<n:=by omega
 have hi2:(3+(nb.toNat:Int)+1)<n:=by omega
 have hi3:0≤(3+(nb.toNat:Int)):=by omega
 have hi4:0≤(3+(nb.toNat:Int)+1):=by omega
 have hor:=or_bytes p q
 rw [hx] at hor
 clear hx
 clear hs
 go_enter Tryz.func98,Tryz.ntmps98
 go_wp2
 go_quiet ((go_at_call 143; exact Calls.quiet_of_same ((sum_any _ _ _ _ _ _ (Reads.drewN (hs2.out _) _) (by unfold maxLen; omega)).mono fun _ _ h=>⟨h.1,h.2.symm⟩)))
 go_wp2_with (go_at_call 144; (with_reducible refine (clone_any B _ _ _ bd _ (Reads.drewN (hbd2.out _) _) (by simp; omega) (by omega)).mono ?_); rintro e w1 ⟨A',k',c',rfl,hown,hb⟩; obtain ⟨hcb,hfb⟩:=bcell hb; have hz:w.heap.size+1≤w1.heap.size:=by have:=hb.size; simp at this; omega)
 have hB1:Below w.heap.size w w1:=(below_drewN ((Below.refl w.heap.size w).alloc (Nat.le_refl _) _) _).trans (hb.mono (by simp))
 have ho:OwnB w1 (w.heap.size+1) A' k' c' bd:=hown.base (by simp)
 have e5:(3+(nb.toNat:Int)+2)=((nb.toNat+5:Nat):Int):=by omega
 refine bodyPost_ret (v:=.agg #[.int .i64 2,.int .i64 (3+(nb.toNat:Int)+2),.int .i64 0,.slice A' k' c']) (by simp [results,Tryz.results98,go_sem,hcb]) rfl
  ⟨A',k',c',by rw [e5],?_,by (iterate 4 refine Below.setCell ?_ (by exact Nat.le_refl _) _); exact hB1⟩
 refine OwnB.base (base:=w.heap.size+1) ?_ (Nat.le_succ _)
 iterate 4 refine OwnB.setBelow ?_ (by exact Nat.lt_succ_self _) _
 exact ho
set_option maxHeartbeats 1000000 in
theorem body_long (b off:Nat) (n c:Nat) (nb:UInt8) (w:World)
  (h2:∀ o,(w.alloc o).cell? ⟨b,off+2,none⟩=some (.int .u8 nb.toNat)) (hn:3≤n) (h32:32<nb.toNat) :
  Calls Tryz.prog 98 #[.slice (some ⟨b,off,none⟩) n c] w fun e w'=>e=.returned (.agg #[.int .i64 3,.int .i64 1,.int .i64 11,.slice none 0 0])∧Below w.heap.size w w':=by
 have hnb:=nb.toNat_lt
 go_enter Tryz.func98,Tryz.ntmps98
 go_wp2_with (go_at_call 99; (with_reducible refine (reject_any _ _).mono ?_); rintro e w1 ⟨rfl,hb⟩; obtain ⟨hcb,hfb⟩:=bcell hb; have hz:w.heap.size+1≤w1.heap.size:=by have:=hb.size; simp at this; omega)
 have hB1:Below w.heap.size w w1:=((Below.refl w.heap.size w).alloc (Nat.le_refl _) _).trans (hb.mono (by simp))
 exact bodyPost_ret (v:=.agg #[.int .i64 3,.int .i64 1,.int .i64 11,.slice none 0 0]) (by simp [results,Tryz.results98,go_sem,hcb]) rfl
  ⟨rfl,by (iterate 4 refine Below.setCell ?_ (by exact Nat.le_refl _) _); exact hB1⟩
set_option maxHeartbeats 1000000 in
theorem body_wait (b off:Nat) (n c:Nat) (nb:UInt8) (w:World)
  (h2:∀ o,(w.alloc o).cell? ⟨b,off+2,none⟩=some (.int .u8 nb.toNat)) (hn:3≤n) (h32:nb.toNat≤32) (h5:n<nb.toNat+5) :
  Calls Tryz.prog 98 #[.slice (some ⟨b,off,none⟩) n c] w fun e w'=>e=.returned (.agg #[.int .i64 0,.int .i64 0,.int .i64 0,.slice none 0 0])∧Below w.heap.size w w':=by
 go_enter Tryz.func98,Tryz.ntmps98
 go_wp2
 exact bodyPost_ret (v:=.agg #[.int .i64 0,.int .i64 0,.int .i64 0,.slice none 0 0]) (by simp [results,Tryz.results98,go_sem]) rfl
  ⟨rfl,(Below.refl _ _).alloc (Nat.le_refl _) _⟩
def behindV (v n:UInt8) (r:List UInt8):Fr.Fd :=
 if 32<n.toNat then reject 11 else if r.length<n.toNat+2 then wait else
 if Crc.sum ([v,n]++r.take n.toNat)=up (r.getD n.toNat 0) ^^^ low (r.getD (n.toNat+1) 0) then frame (r.take n.toNat) else reject 12
theorem behindV_one (n:UInt8) (r:List UInt8):behindV 1 n r=behind n r:=rfl
theorem body_any (B:Nat) (A:Option Addr) (n c:Nat) (c0 c1 nb:UInt8) (r:List UInt8) (w:World) (hr:Reads w B 1 A n ((c0::c1::nb::r).map bv)) (hB:B≤w.heap.size) (hc:n≤c) (hm:c≤maxLen) :
  Calls Tryz.prog 98 #[.slice A n c] w fun e w'=>∃ A' k' c',e=.returned (.agg #[.int .i64 ((behindV c1 nb r).kind:Int),.int .i64 ((behindV c1 nb r).size:Int),.int .i64 ((behindV c1 nb r).code:Int),.slice A' k' c']) ∧
   OwnB w' w.heap.size A' k' c' (behindV c1 nb r).body∧Below w.heap.size w w':=by
 have hl:r.length+3=n:=by have:=hr.1; simp at this; omega
 obtain ⟨b,off,rfl,hb,hcell⟩:=hr.open_ (by omega)
 have hal:∀ (k:Nat) (u:UInt8) (o:Obj),(c0::c1::nb::r)[k]?=some u→(w.alloc o).cell? ⟨b,off+k,none⟩=some (.int .u8 u.toNat):=fun k u o h =>
  (World.cell?_alloc_lt w o _ (by simp; omega)).trans (hcell k u h)
 have h2:∀ o,(w.alloc o).cell? ⟨b,off+2,none⟩=some (.int .u8 nb.toNat):=fun o=>hal 2 nb o rfl
 unfold behindV
 by_cases h32:32<nb.toNat
 ·simp only [if_pos h32]
  refine (body_long b off n c nb w h2 (by omega) h32).mono ?_
  rintro e w' ⟨rfl,hb⟩
  exact ⟨none,0,0,rfl,OwnB.nil _ _,hb⟩
 simp only [if_neg h32]
 by_cases h5:r.length<nb.toNat+2
 ·simp only [if_pos h5]
  refine (body_wait b off n c nb w h2 (by omega) (by omega) (by omega)).mono ?_
  rintro e w' ⟨rfl,hb⟩
  exact ⟨none,0,0,rfl,OwnB.nil _ _,hb⟩
 simp only [if_neg h5]
 have hp:∀ o,(w.alloc o).cell? ⟨b,off+(3+nb.toNat),none⟩=some (.int .u8 (r.getD nb.toNat 0).toNat):=fun o=>hal _ _ o (by
  rw [show 3+nb.toNat=nb.toNat+1+1+1 by omega]
  simp [List.getD_eq_getElem?_getD,List.getElem?_eq_getElem (show nb.toNat<r.length by omega)])
 have hq:∀ o,(w.alloc o).cell? ⟨b,off+(3+nb.toNat+1),none⟩=some (.int .u8 (r.getD (nb.toNat+1) 0).toNat):=fun o=>hal _ _ o (by
  rw [show 3+nb.toNat+1=nb.toNat+1+1+1+1 by omega]
  simp [List.getD_eq_getElem?_getD,List.getElem?_eq_getElem (show nb.toNat+1<r.length by omega)])
 have hs:Reads w B 1 (some ⟨b,off+1,none⟩) (nb.toNat+2) (([c1,nb]++r.take nb.toNat).map bv):=by
  refine Reads.mk_ (by simp; omega) hb (fun k u hu=>?_)
  rw [Nat.add_assoc]
  apply hcell
  rw [Nat.add_comm 1 k,List.getElem?_cons_succ,← hu]
  match k with
  | 0=>rfl
  | 1=>rfl
  | k+2 =>
   simp only [List.cons_append,List.nil_append,List.getElem?_cons_succ,List.getElem?_take]
   by_cases h:k<nb.toNat
   ·rw [if_pos h]
   ·simp only [List.cons_append,List.nil_append,List.getElem?_cons_succ,List.getElem?_take,if_neg h] at hu
    cases hu
 by_cases hsum:Crc.sum ([c1,nb]++r.take nb.toNat)=up (r.getD nb.toNat 0) ^^^ low (r.getD (nb.toNat+1) 0)
 ·simp only [if_pos hsum]
  have hbd:Reads w B 1 (some ⟨b,off+3,none⟩) nb.toNat ((r.take nb.toNat).map bv):=by
   refine Reads.mk_ (by simp; omega) hb (fun k u hu=>?_)
   rw [Nat.add_assoc]
   apply hcell
   rw [show 3+k=k+1+1+1 by omega]
   simp only [List.getElem?_cons_succ]
   rw [List.getElem?_take] at hu
   split at hu
   ·exact hu
   ·cases hu
  have hne:(((Crc.sum ([c1,nb]++r.take nb.toNat)).toNat:Int) != ((up (r.getD nb.toNat 0) ^^^ low (r.getD (nb.toNat+1) 0)).toNat:Int))=false:=by rw [hsum]; simp
  refine (body_ok B b off n c nb _ _ _ w h2 hs hB (by omega) hc hm (by omega) hp hq _ hbd _ rfl hne).mono ?_
  rintro e w' ⟨A',k',c',rfl,ho,hbl⟩
  refine ⟨A',k',c',?_,ho,hbl⟩
  have e5:(frame (r.take nb.toNat)).size=nb.toNat+5:=by simp [frame]; omega
  rw [e5]
  rfl
 ·simp only [if_neg hsum]
  have hne:(((Crc.sum ([c1,nb]++r.take nb.toNat)).toNat:Int) != ((up (r.getD nb.toNat 0) ^^^ low (r.getD (nb.toNat+1) 0)).toNat:Int))=true:=by
   rw [bne_iff_ne]; intro e; exact hsum (BitVec.eq_of_toNat_eq (by omega))
  refine (body_sum B b off n c nb _ _ _ w h2 hs hB (by omega) hc hm (by omega) hp hq _ rfl hne).mono ?_
  rintro e w' ⟨rfl,hb⟩
  exact ⟨none,0,0,rfl,OwnB.nil _ _,hb⟩
end
end Go.Proofs.YtdgejnakakjgfaaGreatDoor
