/- The symbolic executor: append, copy. The symbolic executor: copy; one operation, its wp. The symbolic executor: one operation, its wp. -/
import Derived.Test.YtdgejnakakjgfaaGreatDoorR02
import Derived.Laws.AppendOwn
set_option linter.unusedVariables false
set_option linter.unusedSimpArgs false
set_option maxRecDepth 100000
namespace Go.Proofs.YtdgejnakakjgfaaGreatDoor
section
namespace SE
variable {X:Px} {own0:Nat→Prop} {w0 w:World} {E:Env} {st:St} {tm:TT} {a:Act}
theorem G.less (g:G X own0 w0 E st w) {h:List (Nat×Blk)} {s:List (Nat×SlI)} (hh:∀ id blk,lk h id=some blk→lk st.heap id=some blk) (hs:∀ id i,lk s id=some i→lk st.sls id=some i)
  (ho:∀ id b nm args,lk s id=some (.own b nm args)→lk h b=some .opq) :
  G X own0 w0 E { st with heap:=h,sls:=s } w:=by
 refine ⟨g.size,g.os,g.tape,g.output,g.frame,fun id blk hl=>g.heap id blk (hh id blk hl),fun id id' b b' n h1 h2=>g.inj id id' b b' n (hh _ _ h1) (hh _ _ h2),g.tab,?_,g.dom,?_,g.facts⟩
 ·intro id i hl
  have:=g.sls id i (hs id i hl)
  cases i with
  | bytes len =>
   obtain ⟨base,ln,cap,h1,h2,h3,h4,h5⟩:=this
   exact ⟨base,ln,cap,h1,h2,h3,h4,fun x hx=>⟨(h5 x hx).1,fun bid blk hb=>(h5 x hx).2 bid blk (hh _ _ hb)⟩⟩
  | row b len=>exact this
  | own b nm args=>exact ⟨ho _ _ _ _ hl,this.2⟩
 ·intro gg cs hg
  obtain ⟨h1,h2,h3⟩:=g.gl gg cs hg
  exact ⟨h1,fun id blk hl=>h2 id blk (hh _ _ hl),h3⟩
theorem G.addRow (g:G X own0 w0 E st w) {n e sz len cap:Nat} {cs:List SV} {vs:Array Value} (hn:n<w.heap.size) (hown:own0 n∨w0.heap.size≤n)
  (hfree:∀ id blk,lk st.heap id=some blk→E id≠some (.blk n)) (hst:∀ id l base ln c,lk st.sls id=some (.bytes l)→E id=some (.sl base ln c)→∀ x,base=some x→x.block≠n)
  (hgl:∀ gg cs,X.T.gl gg=some cs→gg≠n) (hg:w.heap[n]?=some (.cells vs e (0,0))) (h1:vs.size=cap*sz) (h2:cs.length=len*sz) (h3:len≤cap) (h4:RL E cs (vs.toList.take cs.length)) :
  ∃ E',E.le E'∧R E' (.sl (st.nid+1)) (.slice (some ⟨n,0,none⟩) len cap)∧G X own0 w0 E' (appSt st e sz len cs st.heap st.sls) w:=by
 have hn0:=g.nid_none
 have hn1:(E.upd st.nid (.blk n)) (st.nid+1)=none:=by rw [Env.upd_ne _ _ (by omega)]; exact g.dom _ (by omega)
 have hle1:=Env.le_upd (x:=EV.blk n) hn0
 have hle2:=Env.le_upd (x:=EV.sl (some ⟨n,0,none⟩) len cap) hn1
 have hle:=Env.le_trans hle1 hle2
 refine ⟨(E.upd st.nid (.blk n)).upd (st.nid+1) (.sl (some ⟨n,0,none⟩) len cap),hle,by simp only [R]; exact ⟨_,_,_,Env.upd_self _ _ _,rfl⟩,?_⟩
 have eb:((E.upd st.nid (.blk n)).upd (st.nid+1) (.sl (some ⟨n,0,none⟩) len cap)) st.nid=some (.blk n):=hle2 _ _ (Env.upd_self _ _ _)
 have g1:=g.mono hle (fun id hid=>by rw [Env.upd_ne _ _ (by omega),Env.upd_ne _ _ (by omega)]) (nid:=st.nid+2) (by omega) (fun id hid=>by
  rw [Env.upd_ne _ _ (by omega),Env.upd_ne _ _ (by omega)]
  exact g.dom id (by omega))
 have hnid:∀ id blk,lk st.heap id=some blk→id≠st.nid:=fun id blk hl he=>by
  have:=g.hid hl
  omega
 have hfree':∀ id blk,lk st.heap id=some blk→((E.upd st.nid (.blk n)).upd (st.nid+1) (.sl (some ⟨n,0,none⟩) len cap)) id≠some (.blk n):=fun id blk hl hc=>by
  have hi:=g.hid hl
  rw [Env.upd_ne _ _ (by omega),Env.upd_ne _ _ (by omega)] at hc
  exact hfree id blk hl hc
 refine ⟨g1.size,g1.os,g1.tape,g1.output,g1.frame,?_,?_,g1.tab,?_,g1.dom,?_,g1.facts⟩
 ·intro id blk hl
  simp only [appSt,lk_cons] at hl
  split at hl
  ·rename_i he
   subst he
   cases hl
   exact .inr ⟨n,eb,hn,.inr hown,vs,len,cap,hg,Env.upd_self _ _ _,h1,h2,h3,h4.mono hle⟩
  ·exact g1.heap id blk hl
 ·intro id id' b b' m k1 k2 k3 k4
  simp only [appSt,lk_cons] at k1 k2
  split at k1
  ·rename_i he
   split at k2
   ·rename_i he'; rw [he,he']
   ·rw [he,eb] at k3
    cases k3
    exact absurd k4 (hfree' _ _ k2)
  ·split at k2
   ·rename_i he'
    rw [he',eb] at k4
    cases k4
    exact absurd k3 (hfree' _ _ k1)
   ·exact g1.inj id id' b b' m k1 k2 k3 k4
 ·intro id i hl
  simp only [appSt,lk_cons] at hl
  split at hl
  ·rename_i he
   subst he
   cases hl
   exact ⟨n,cap,eb,Env.upd_self _ _ _⟩
  ·have hs:=g1.sls id i hl
   cases i with
   | bytes l =>
    obtain ⟨base,ln,c,k1,k2,k3,k4,k5⟩:=hs
    refine ⟨base,ln,c,k1,k2,k3,k4,fun x hx=>⟨(k5 x hx).1,fun bid blk hb hc=>?_⟩⟩
    simp only [appSt,lk_cons] at hb
    split at hb
    ·rename_i he
     rw [he,eb] at hc
     obtain ⟨base',ln',c',k1',_⟩:=g.sls id _ hl
     have:=hle _ _ k1'
     rw [k1] at this
     cases this
     simp only [Option.some.injEq,EV.blk.injEq] at hc
     exact hst id l base ln c hl k1' x hx hc.symm
    ·exact (k5 x hx).2 bid blk hb hc
   | row b l=>exact hs
   | own b nm args =>
    obtain ⟨h0,h1⟩:=hs
    refine ⟨?_,h1⟩
    simp only [appSt,lk_cons]
    rw [if_neg (hnid b _ h0)]
    exact h0
 ·intro gg cs' hg'
  obtain ⟨k1,k2,k3⟩:=g1.gl gg cs' hg'
  refine ⟨k1,fun id blk hl hc=>?_,k3⟩
  simp only [appSt,lk_cons] at hl
  split at hl
  ·rename_i he
   rw [he,eb] at hc
   simp only [Option.some.injEq,EV.blk.injEq] at hc
   exact hgl gg cs' hg' hc.symm
  ·exact k2 id blk hl hc
theorem G.wild (g:G X own0 w0 E st w) {n e:Nat} {vs vs':Array Value} (hg:w.heap[n]?=some (.cells vs e (0,0))) (hown:own0 n∨w0.heap.size≤n)
  (hfree:∀ id blk,lk st.heap id=some blk→E id≠some (.blk n)) (hst:∀ id l base ln c,lk st.sls id=some (.bytes l)→E id=some (.sl base ln c)→∀ x,base=some x→x.block≠n)
  (hgl:∀ gg cs,X.T.gl gg=some cs→gg≠n):G X own0 w0 E st (w.setRow n vs'):=by
 have hoth:∀ k,k≠n→(w.setRow n vs').heap[k]?=w.heap[k]?:=fun k hk=>setRow_other w n k vs' hk
 refine ⟨by simpa using g.size,g.os,g.tape,g.output,?_,?_,g.inj,g.tab,?_,g.dom,?_,g.facts⟩
 ·intro k hk hko
  have hkn:k≠n:=fun hh=>by
   subst hh
   rcases hown with h | h
   ·exact hko h
   ·omega
  rw [hoth k hkn]
  exact g.frame k hk hko
 ·intro id blk hl
  rcases g.heap id blk hl with ⟨h0,h1,h2⟩ | ⟨m,hm,h2,h3,h4⟩
  ·exact .inl ⟨h0,h1,fun k hk=>by simpa using h2 k hk⟩
  ·have hmn:m≠n:=fun hh=>hfree id blk hl (by rw [hm,hh])
   refine .inr ⟨m,hm,by simpa using h2,h3,?_⟩
   cases blk with
   | cells e cs=>obtain ⟨us,k1,k2⟩:=h4; exact ⟨us,by rw [hoth m hmn]; exact k1,k2⟩
   | row e sz sid cs=>obtain ⟨us,len,cap,k1,k2⟩:=h4; exact ⟨us,len,cap,by rw [hoth m hmn]; exact k1,k2⟩
   | map es=>obtain ⟨ms,c,k1,k2⟩:=h4; exact ⟨ms,c,by rw [hoth m hmn]; exact k1,k2⟩
   | opq=>trivial
   | ro e cs=>obtain ⟨us,k1,k2⟩:=h4; exact ⟨us,by rw [hoth m hmn]; exact k1,k2⟩
   | res nm xs args=>exact h4
 ·intro id i hl
  have hs:=g.sls id i hl
  cases i with
  | bytes len =>
   obtain ⟨base,ln,cap,k1,k2,k3,k4,k5⟩:=hs
   refine ⟨base,ln,cap,k1,k2,k3,?_,fun x hx=>⟨by simpa using (k5 x hx).1,(k5 x hx).2⟩⟩
   cases base with
   | none=>exact k4
   | some p =>
    obtain ⟨q1,us,e,fr,q2,q3⟩:=k4
    exact ⟨q1,us,e,fr,by rw [hoth _ (hst id len _ _ _ hl k1 p rfl)]; exact q2,q3⟩
  | row b len=>exact hs
  | own b nm args =>
   obtain ⟨h0,base,ln,cap,vs,k1,k2,k3,k4⟩:=hs
   refine ⟨h0,base,ln,cap,vs,k1,k2,k3,?_⟩
   cases base with
   | none=>exact k4
   | some x =>
    simp only [Option.bind_some] at k4 ⊢
    rw [hoth _ (fun hh=>hfree b _ h0 (by rw [← hh]; exact k3 x rfl))]
    exact k4
 ·intro gg cs hgg
  obtain ⟨k1,k2,us,e,fr,k3,k4⟩:=g.gl gg cs hgg
  exact ⟨by simpa using k1,k2,us,e,fr,by rw [hoth _ (hgl gg cs hgg)]; exact k3,k4⟩
theorem G.addOwn (g:G X own0 w0 E st w) {n nm len cap:Nat} {args:List SV} {vs:List Value} (hn:n<w.heap.size) (hown:own0 n∨w0.heap.size≤n)
  (hfree:∀ id blk,lk st.heap id=some blk→E id≠some (.blk n)) (hst:∀ id l base ln c,lk st.sls id=some (.bytes l)→E id=some (.sl base ln c)→∀ x,base=some x→x.block≠n)
  (hgl:∀ gg cs,X.T.gl gg=some cs→gg≠n) (hg:OwnRow X nm vs (some ⟨n,0,none⟩) len cap w.heap[n]?) (h4:RL E args vs) :
  ∃ E',E.le E'∧R E' (.sl (st.nid+1)) (.slice (some ⟨n,0,none⟩) len cap)∧G X own0 w0 E' { st with heap:=(st.nid,.opq)::st.heap,sls:=(st.nid+1,.own st.nid nm args)::st.sls,nid:=st.nid+2 } w:=by
 have hn0:=g.nid_none
 have hn1:(E.upd st.nid (.blk n)) (st.nid+1)=none:=by rw [Env.upd_ne _ _ (by omega)]; exact g.dom _ (by omega)
 have hle1:=Env.le_upd (x:=EV.blk n) hn0
 have hle2:=Env.le_upd (x:=EV.sl (some ⟨n,0,none⟩) len cap) hn1
 have hle:=Env.le_trans hle1 hle2
 refine ⟨(E.upd st.nid (.blk n)).upd (st.nid+1) (.sl (some ⟨n,0,none⟩) len cap),hle,by simp only [R]; exact ⟨_,_,_,Env.upd_self _ _ _,rfl⟩,?_⟩
 have eb:((E.upd st.nid (.blk n)).upd (st.nid+1) (.sl (some ⟨n,0,none⟩) len cap)) st.nid=some (.blk n):=hle2 _ _ (Env.upd_self _ _ _)
 have g1:=g.mono hle (fun id hid=>by rw [Env.upd_ne _ _ (by omega),Env.upd_ne _ _ (by omega)]) (nid:=st.nid+2) (by omega) (fun id hid=>by
  rw [Env.upd_ne _ _ (by omega),Env.upd_ne _ _ (by omega)]
  exact g.dom id (by omega))
 have hnid:∀ id blk,lk st.heap id=some blk→id≠st.nid:=fun id blk hl he=>by
  have:=g.hid hl
  omega
 have hfree':∀ id blk,lk st.heap id=some blk→((E.upd st.nid (.blk n)).upd (st.nid+1) (.sl (some ⟨n,0,none⟩) len cap)) id≠some (.blk n):=fun id blk hl hc=>by
  have hi:=g.hid hl
  rw [Env.upd_ne _ _ (by omega),Env.upd_ne _ _ (by omega)] at hc
  exact hfree id blk hl hc
 refine ⟨g1.size,g1.os,g1.tape,g1.output,g1.frame,?_,?_,g1.tab,?_,g1.dom,?_,g1.facts⟩
 ·intro id blk hl
  simp only [lk_cons] at hl
  split at hl
  ·rename_i he
   subst he
   cases hl
   exact .inl ⟨rfl,by simp,fun m hm=>by rw [eb] at hm; cases hm; exact ⟨hn,hown⟩⟩
  ·exact g1.heap id blk hl
 ·intro id id' b b' m k1 k2 k3 k4
  simp only [lk_cons] at k1 k2
  split at k1
  ·rename_i he
   split at k2
   ·rename_i he'; rw [he,he']
   ·rw [he,eb] at k3
    cases k3
    exact absurd k4 (hfree' _ _ k2)
  ·split at k2
   ·rename_i he'
    rw [he',eb] at k4
    cases k4
    exact absurd k3 (hfree' _ _ k1)
   ·exact g1.inj id id' b b' m k1 k2 k3 k4
 ·intro id i hl
  simp only [lk_cons] at hl
  split at hl
  ·rename_i he
   subst he
   cases hl
   exact ⟨by simp [lk_cons],some ⟨n,0,none⟩,len,cap,vs,Env.upd_self _ _ _,h4.mono hle,fun x hx=>(by cases hx; exact eb),hg⟩
  ·have hs:=g1.sls id i hl
   cases i with
   | bytes l =>
    obtain ⟨base,ln,c,k1,k2,k3,k4,k5⟩:=hs
    refine ⟨base,ln,c,k1,k2,k3,k4,fun x hx=>⟨(k5 x hx).1,fun bid blk hb hc=>?_⟩⟩
    simp only [lk_cons] at hb
    split at hb
    ·rename_i he
     rw [he,eb] at hc
     obtain ⟨base',ln',c',k1',_⟩:=g.sls id _ hl
     have:=hle _ _ k1'
     rw [k1] at this
     cases this
     simp only [Option.some.injEq,EV.blk.injEq] at hc
     exact hst id l base ln c hl k1' x hx hc.symm
    ·exact (k5 x hx).2 bid blk hb hc
   | row b l=>exact hs
   | own b nm args =>
    obtain ⟨h0,h1⟩:=hs
    refine ⟨?_,h1⟩
    simp only [lk_cons]
    rw [if_neg (hnid b _ h0)]
    exact h0
 ·intro gg cs' hg'
  obtain ⟨k1,k2,k3⟩:=g1.gl gg cs' hg'
  refine ⟨k1,fun id blk hl hc=>?_,k3⟩
  simp only [lk_cons] at hl
  split at hl
  ·rename_i he
   rw [he,eb] at hc
   simp only [Option.some.injEq,EV.blk.injEq] at hc
   exact hgl gg cs' hg' hc.symm
  ·exact k2 id blk hl hc
def AllB (us:List Value):Prop:=∀ v∈us,∃ z:Int,0≤z∧z≤255∧v=.int .u8 z
theorem AllB.rl:∀ {us:List Value},AllB us→RL E (rep us.length byteCell) us
 | [],_=>by simp [rep,RL]
 | v::us,h=>by
  simp only [List.length_cons,rep]
  obtain ⟨z,h1,h2,rfl⟩:=h v (by simp)
  exact RL_cons.2 ⟨by simp only [byteCell,R,SIok]; exact ⟨z,⟨h1,h2⟩,rfl⟩,AllB.rl fun u hu=>h u (by simp [hu])⟩
theorem byteRow_vals {base:Option Addr} {ln:Nat} (h:ByteRow w base ln):∃ us:List Value,us.length=ln∧AllB us∧(base=none→ln=0)∧∀ p,base=some p→p.spot=none∧∀ j v,us[j]?=some v→w.cell? (p.add j)=some v:=by
 cases base with
 | none=>simp only [ByteRow] at h; exact ⟨[],by simp [h],fun v hv=>(by cases hv),fun _=>h,fun p hp=>(by cases hp)⟩
 | some p =>
  obtain ⟨h1,vs,e,fr,h2,h3⟩:=h
  have hex:∃ f:Nat→Int,∀ i,i<ln→0≤f i∧f i≤255∧vs[p.off+i]?=some (.int .u8 (f i)):=by
   refine ⟨fun i=>match vs[p.off+i]? with | some (.int _ z)=>z | _=>0,fun i hi=>?_⟩
   obtain ⟨z,z1,z2,z3⟩:=h3 i hi
   simp only [z3]
   exact ⟨z1,z2,trivial⟩
  obtain ⟨f,hf⟩:=hex
  refine ⟨(List.range ln).map fun i=>Value.int .u8 (f i),by simp,?_,fun hh=>(by cases hh),fun q hq=>?_⟩
  ·intro v hv
   simp only [List.mem_map,List.mem_range] at hv
   obtain ⟨i,hi,rfl⟩:=hv
   have:=hf i hi
   exact ⟨f i,this.1,this.2.1,rfl⟩
  ·cases hq
   refine ⟨h1,fun j v hv=>?_⟩
   simp only [List.getElem?_map,Option.map_eq_some_iff] at hv
   obtain ⟨k,hk,rfl⟩:=hv
   rw [List.getElem?_eq_some_iff] at hk
   obtain ⟨hj,hk⟩:=hk
   simp at hj hk
   subst hk
   rw [add_spot h1,cell_at h2]
   exact (hf j hj).2.2
theorem cellsS_ok (g:G X own0 w0 E st w) {sz n:Nat} {x:SV} {u:Value} {cs:List SV} (e:cellsS st sz x=some cs) (hn:lenC st x=some n) (h:R E x u) :
  ∃ base c us,u=.slice base n c∧RL E cs us∧us.length=n*sz∧(base=none→n=0∧us=[])∧∀ p,base=some p→p.spot=none∧∀ j v,us[j]?=some v→w.cell? (p.add j)=some v:=by
 have hlen:∃ b c,u=.slice b n c:=by
  unfold lenC at hn
  cases hl:lenS st x with
  | none=>simp only [hl] at hn; cases hn
  | some l =>
   simp only [hl] at hn
   split at hn
   ·rename_i n1 m1 hl2
    cases hb:Nat.beq n1 m1 with
    | false=>simp only [hb,cond_false] at hn; cases hn
    | true =>
     simp only [hb,cond_true] at hn
     cases hn
     have:=nbeq hb
     subst this
     obtain ⟨b,m,c,rfl,hs⟩:=lenS_ok g hl h
     cases hl2
     simp only [SIok,Int.ofNat_eq_natCast] at hs
     have:m=n:=by omega
     subst this
     exact ⟨b,c,rfl⟩
   ·cases hn
 obtain ⟨b0,c0,rfl⟩:=hlen
 cases x <;> simp only [cellsS] at e <;> try cases e
 case slc b off len cap =>
  simp only [R] at h
  obtain ⟨m,hm,he⟩:=h
  cases he
  cases hl:lk st.heap b with
  | none=>simp only [hl] at e; cases e
  | some blk =>
   rcases g.heap b blk hl with ⟨h0,_⟩ | ⟨m',hm',h2,h3,h4⟩
   ·subst h0; simp only [hl] at e; cases e
   rw [hm] at hm'
   cases hm'
   cases blk <;> simp only [hl] at e <;> try cases e
   obtain ⟨vs,k1,k2⟩:=h4
   have hc:=RL_cut k2 e
   refine ⟨_,_,_,rfl,hc.1,?_,fun hh=>(by cases hh),fun p hp=>?_⟩
   ·rw [List.length_take,List.length_drop]
    have:=hc.2
    omega
   ·cases hp
    refine ⟨rfl,fun j v hv=>?_⟩
    rw [add_none,cell_at k1]
    rw [List.getElem?_take] at hv
    split at hv
    ·rw [List.getElem?_drop] at hv; simpa using hv
    ·cases hv
 case nils =>
  simp only [R] at h
  cases h
  exact ⟨none,0,[],rfl,by simp [RL],by simp,fun _=>⟨rfl,rfl⟩,fun p hp=>by cases hp⟩
 case sl i =>
  simp only [R] at h
  obtain ⟨base,ln,cp,hE,he⟩:=h
  cases he
  cases hl:lk st.sls i with
  | none=>simp only [hl] at e; cases e
  | some s =>
   have hsl:=g.sls i s hl
   cases s <;> simp only [hl] at e <;> try cases e
   ·rename_i len
    have hn':=hn
    simp only [lenC,lenS,hl] at hn'
    cases len with
    | a id=>simp only at e; cases e
    | r lo hi =>
     cases lo with
     | negSucc k=>simp only at e; cases e
     | ofNat n1 =>
      cases hi with
      | negSucc k=>simp only at e; cases e
      | ofNat m1 =>
       simp only [cond_eq_ite,Bool.and_eq_true] at e
       split at e
       ·rename_i hc
        cases e
        have q1:=nbeq hc.1
        have q2:=nbeq hc.2
        subst q1 q2
        obtain ⟨base',ln',cap',hE',hsi,hlc,hbr,hst⟩:=hsl
        rw [hE] at hE'
        cases hE'
        obtain ⟨us,hus,hall,hnone,hcell⟩:=byteRow_vals hbr
        simp only [Nat.beq_refl,cond_true,Option.some.injEq] at hn'
        subst hn'
        exact ⟨_,_,us,rfl,by rw [← hus]; exact hall.rl,by rw [hus,Nat.mul_one],fun hh=>⟨hnone hh,by have:=hnone hh; rw [← hus] at this; exact List.length_eq_zero_iff.1 this⟩,hcell⟩
       ·cases e
   rename_i b len
   obtain ⟨m,cap,hb,hE'⟩:=hsl
   rw [hE] at hE'
   cases hE'
   cases hl2:lk st.heap b with
   | none=>simp only [hl2] at e; cases e
   | some blk =>
    rcases g.heap b blk hl2 with ⟨h0,_⟩ | ⟨m',hm',h2,h3,h4⟩
    ·subst h0; simp only [hl2] at e; cases e
    rw [hb] at hm'
    cases hm'
    cases blk <;> simp only [hl2] at e <;> try cases e
    obtain ⟨vs,len',cap',k1,k3,k4,k5,k6,k7⟩:=h4
    have hc:=RL_cut k7 e
    refine ⟨_,_,_,rfl,hc.1,?_,fun hh=>(by cases hh),fun p hp=>?_⟩
    ·rw [List.length_take,List.length_drop]
     have:=hc.2
     omega
    ·cases hp
     refine ⟨rfl,fun j v hv=>?_⟩
     rw [add_none,Nat.zero_add,cell_at k1]
     rw [List.getElem?_take] at hv
     split at hv
     ·rw [List.getElem?_drop,Nat.zero_add,List.getElem?_take] at hv
      split at hv
      ·simpa using hv
      ·cases hv
     ·cases hv
theorem grownCap_ge' (w:World) (need old:Nat) (e:TypeId):need≤grownCap w need old e:=by
 unfold grownCap
 simp [Question.cut]
theorem appendS_ok (hT:TabOk X) (g:G X own0 w0 E st w) {t ty0:Nat} {s x v:SV} {us ux:Value} {st':St} (e:appendS X.T st t s x=some (v,st')) (hs:R E s us) (hx:R E x ux) :
  ∃ y w' E',(Builtin.append_ #[t,t] ty0 #[us,ux]).run X.P w=.ok y w'∧E.le E'∧R E' v y∧G X own0 w0 E' st' w':=by
 unfold appendS at e
 cases hty:X.T.ty.get t with
 | none=>simp only [hty] at e; cases e
 | some ty =>
  obtain ⟨d,i,hd,hi,hs1,hu⟩:=typ_some hT hty
  simp only [hty] at e
  cases hund:ty.und <;> simp only [hund] at e <;> try cases e
  rename_i el
  rw [hund] at hu
  cases d <;> simp [UDok] at hu
  rename_i el1
  subst hu
  cases hel:X.T.ty.get el1 with
  | none=>simp only [hel] at e; cases e
  | some y =>
   obtain ⟨d2,i2,hd2,hi2,hs2,hb2,hu2,ha2,hl2,z,hz,hzr⟩:=hT.ty el1 y hel
   simp only [hel] at e
   have hzs:z.cells.size=y.size:=by have:=RL_length (hzr E); simp at this; omega
   cases h1:cellsS st y.size s with
   | none=>simp only [h1] at e; cases e
   | some old =>
    cases h2:cellsS st y.size x with
    | none=>simp only [h1,h2] at e; cases e
    | some new =>
     cases h3:lenC st s with
     | none=>simp only [h1,h2,h3] at e; cases e
     | some n =>
      cases h4:lenC st x with
      | none=>simp only [h1,h2,h3,h4] at e; cases e
      | some m =>
       cases h5:appTo st el1 y.size s with
       | none=>simp only [h1,h2,h3,h4,h5] at e; cases e
       | some q =>
        obtain ⟨hp,sl⟩:=q
        simp only [h1,h2,h3,h4,h5,cond_eq_ite,Bool.and_eq_true,Nat.ble_eq] at e
        split at e
        ·rename_i hc
         obtain ⟨c1,c2,c3,c4,c5⟩:=hc
         have hm:0<m:=Nat.le_of_ble_eq_true c1
         have hsz:0<y.size:=Nat.le_of_ble_eq_true c4
         simp only [Option.some.injEq,Prod.mk.injEq] at e
         obtain ⟨rfl,rfl⟩:=e
         obtain ⟨bs,cps,os,rfl,ro,lo,no,co⟩:=cellsS_ok g h1 h3 hs
         obtain ⟨bx,cpx,ns,rfl,rn,ln,nn,cn⟩:=cellsS_ok g h2 h4 hx
         obtain ⟨px,rfl⟩:∃ p,bx=some p:=by
          cases bx with
          | none=>have:=(nn rfl).1; omega
          | some p=>exact ⟨p,rfl⟩
         have hnews:=(cn px rfl).2
         have hone:=allCell_one rn c5
         have hrl:=RL_append ro rn
         have hlen:(old++new).length=(n+m)*y.size:=by
          rw [List.length_append,← RL_length ro,← RL_length rn,lo,ln,Nat.add_mul]
         have hbytes:(n+m)*i2.bytes≤140737488355328:=by
          rw [hb2]
          have:(n+m)*y.bytes≤1000000*1000000:=Nat.mul_le_mul c2 c3
          omega
         have grow:∀ (old':Nat),old'<n+m→G X own0 w0 E { st with heap:=hp,sls:=sl } w→∃ E',E.le E' ∧
           R E' (.sl (st.nid+1)) (.slice (some ⟨w.heap.size,0,none⟩) (n+m) (grownCap w (n+m) old' el1)) ∧
           G X own0 w0 E' (appSt st el1 y.size (n+m) (old++new) hp sl)
            (w.drew.alloc (.cells (os.toArray++ns.toArray++Builtin.zeroCells z.cells (grownCap w (n+m) old' el1 - (n+m))) el1)):=by
          intro old' ho g1
          have hge:=grownCap_ge' w (n+m) old' el1
          have g2:=g1.drew.ext (ext_alloc w.drew (.cells (os.toArray++ns.toArray++Builtin.zeroCells z.cells (grownCap w (n+m) old' el1 - (n+m))) el1)) rfl rfl rfl
          refine g2.addRow (n:=w.heap.size) (e:=el1) (sz:=y.size) (len:=n+m) (cap:=grownCap w (n+m) old' el1) (cs:=old++new) (by simp) (.inr g.size) ?_ ?_ ?_ (heap_alloc_new w.drew _) ?_ hlen hge ?_
          ·intro id blk hl hc
           have:=(g1.hown hl hc).1
           omega
          ·intro id l base ln' c hl hE q hq
           obtain ⟨b',l',c',k1,_,_,_,k5⟩:=g1.sls id _ hl
           rw [hE] at k1
           cases k1
           have:=(k5 q hq).1
           omega
          ·intro gg cs hgg
           have:=(g1.gl gg cs hgg).1
           omega
          ·simp only [Array.size_append,List.size_toArray,size_zeroCells,hzs,lo,ln,← Nat.add_mul]
           congr 1
           omega
          ·have:(os++ns).length=(old++new).length:=by rw [RL_length hrl]
           rw [← this]
           simp only [Array.toList_append]
           rw [List.take_append_of_le_length (by simp),List.take_of_length_le (by simp)]
           exact hrl
         cases s <;> simp only [appTo] at h5 <;> try cases h5
         case nils.refl =>
          simp only [R] at hs
          cases hs
          obtain ⟨E',hle,hR,hG⟩:=grow 0 (by omega) g
          have os0 : os = [] := by have:os.length=0:=by rw [lo]; simp
                                   exact List.length_eq_zero_iff.1 this
          subst os0
          refine ⟨_,_,E',?_,hle,hR,hG⟩
          have:=run_append_nil (P:=X.P) w t ty0 el1 i2 z hd hi2 hz px m cpx ns (by rw [ln,hs2]) hnews hm (by omega) (by simp only [Nat.zero_add] at hbytes; omega)
          simpa using this
         case slc b off len cap =>
          cases hlc:Nat.beq len cap with
          | false=>simp only [hlc,cond_false] at h5; cases h5
          | true =>
           have:=nbeq hlc
           subst this
           simp only [hlc,cond_true] at h5
           cases h5
           simp only [R] at hs
           obtain ⟨k,hk,hs⟩:=hs
           cases hs
           obtain ⟨E',hle,hR,hG⟩:=grow n (by omega) g
           refine ⟨_,_,E',?_,hle,hR,hG⟩
           have hfit:=growslice_fits (need:=n+m) (old:=n) (by omega) hbytes
           exact run_append_grow (P:=X.P) w t ty0 el1 i2 z hd hi2 hz ⟨k,off,none⟩ n n os (by rw [lo,hs2]) (co _ rfl).2 px m cpx ns (by rw [ln,hs2]) hnews (by omega) (by omega) hfit
         case sl i =>
          cases hl:lk st.sls i with
          | none=>simp only [hl] at h5; cases h5
          | some si =>
           have hsl:=g.sls i si hl
           cases si <;> simp only [hl] at h5 <;> try cases h5
           rename_i b len
           obtain ⟨k,cap,hb,hE⟩:=hsl
           simp only [R] at hs
           obtain ⟨b',l',c',hE',hs⟩:=hs
           rw [hE] at hE'
           cases hE'
           cases hs
           cases hlb:lk st.heap b with
           | none=>simp only [hlb] at h5; cases h5
           | some blk =>
            rcases g.heap b blk hlb with ⟨h0,_⟩ | ⟨k',hk',k2,k3,k4⟩
            ·subst h0; simp only [hlb] at h5; cases h5
            rw [hb] at hk'
            cases hk'
            cases blk <;> simp only [hlb] at h5 <;> try cases h5
            rename_i e' sz' sid cs'
            cases hcc:(Nat.beq e' el1&&(Nat.beq sz' y.size&&Nat.beq sid i)) with
            | false=>simp only [hcc,cond_false] at h5; cases h5
            | true =>
             simp only [hcc,cond_true] at h5
             cases h5
             simp only [Bool.and_eq_true] at hcc
             have q1:=nbeq hcc.1
             have q2:=nbeq hcc.2.1
             have q3:=nbeq hcc.2.2
             subst q1 q2 q3
             obtain ⟨vs,len',cap',r1,r3,r4,r5,r6,r7⟩:=k4
             rw [hE] at r3
             cases r3
             by_cases hroom:n+m≤cps
             ·
              have hn':n*y.size+ns.length≤vs.size:=by rw [ln,← Nat.add_mul,r4]; exact Nat.mul_le_mul_right _ hroom
              have hrun:=run_append_room (P:=X.P) w t ty0 e' i2 hd hi2 k n cps vs r1 px m cpx ns (by rw [ln,hs2]) hnews hone hroom (by rw [hs2]; exact hn')
              rw [hs2] at hrun
              have hob:∀ id b0 nm args,lk st.sls id=some (.own b0 nm args)→b0≠b∧lk st.heap b0=some .opq:=fun id b0 nm args h=>by
               have h0:=(g.sls id _ h).1
               exact ⟨fun hh=>(by subst hh; rw [hlb] at h0; cases h0),h0⟩
              have g1:=g.setRow (b':=.opq) (vs':=(vs.toList.take (n*y.size)++ns++vs.toList.drop (n*y.size+ns.length)).toArray) hlb rfl hb r1 trivial
              have g2:=g1.less (h:=del st.heap b) (s:=del st.sls sid) (fun id blk h=>by
               rw [lk_del] at h
               split at h
               ·cases h
               ·rename_i hne; rw [lk_upd,if_neg hne]; exact h) (fun id i h=>by
               rw [lk_del] at h
               split at h
               ·cases h
               ·exact h) (fun id b0 nm args h=>by
               rw [lk_del] at h
               split at h
               ·cases h
               ·obtain ⟨q1,q2⟩:=hob id b0 nm args h
                rw [lk_del,if_neg q1]
                exact q2)
              have s1:∀ id blk,lk (del st.heap b) id=some blk→E id≠some (.blk k):=by
               intro id blk h hc
               rw [lk_del] at h
               split at h
               ·cases h
               ·rename_i hne
                exact hne (g.inj _ _ _ _ _ h hlb hc hb)
              have s2:∀ id l base ln c,lk (del st.sls sid) id=some (.bytes l)→E id=some (.sl base ln c)→∀ x,base=some x→x.block≠k:=by
               intro id l base ln' c h hE2 q hq
               rw [lk_del] at h
               split at h
               ·cases h
               ·obtain ⟨b2,l2,c2',k1',_,_,_,k5'⟩:=g.sls id _ h
                rw [hE2] at k1'
                cases k1'
                exact fun hh=>(k5' q hq).2 b _ hlb (by rw [hb,hh])
              have s3:∀ gg cs,X.T.gl gg=some cs→gg≠k:=by
               intro gg cs2 hgg hh
               exact (g.gl gg cs2 hgg).2.1 b _ hlb (by rw [hb,hh])
              have s4:((vs.toList.take (n*y.size)++ns++vs.toList.drop (n*y.size+ns.length)).toArray).size=cps*y.size:=by
               rw [← r4]
               simp
               omega
              have s5:RL E (old++new) (((vs.toList.take (n*y.size)++ns++vs.toList.drop (n*y.size+ns.length)).toArray).toList.take (old++new).length):=by
               have hos:os=vs.toList.take (n*y.size):=by
                apply List.ext_getElem?
                intro j
                by_cases hj:j<os.length
                ·have h9:=(co ⟨k,0,none⟩ rfl).2 j os[j] (by simp [hj])
                 rw [add_none,Nat.zero_add,cell_at r1] at h9
                 rw [lo] at hj
                 simp [hj,h9]
                ·rw [List.getElem?_eq_none (by omega),List.getElem?_eq_none (by rw [List.length_take]; omega)]
               have hlen2:(os++ns).length=(old++new).length:=by rw [RL_length hrl]
               rw [← hlen2]
               simp only []
               rw [← hos,List.take_append_of_le_length (by simp),List.take_of_length_le (by simp)]
               exact hrl
              obtain ⟨E',hle,hR,hG⟩:=g2.addRow (n:=k) (e:=e') (sz:=y.size) (len:=n+m) (cap:=cps) (cs:=old++new) (by simp; exact k2) (k3.resolve_left (by simp [Blk.isRo])) s1 s2 s3 (setRow_heap w k vs _ e' _ r1) s4 hlen hroom s5
              exact ⟨_,_,E',hrun,hle,hR,hG⟩
             ·have g2:=g.less (h:=del st.heap b) (s:=del st.sls sid) (fun id blk h=>by
               rw [lk_del] at h
               split at h
               ·cases h
               ·exact h) (fun id i h=>by
               rw [lk_del] at h
               split at h
               ·cases h
               ·exact h) (fun id b0 nm args h=>by
               rw [lk_del] at h
               split at h
               ·cases h
               ·have h0:=(g.sls id _ h).1
                rw [lk_del,if_neg (fun hh=>by subst hh; rw [hlb] at h0; cases h0)]
                exact h0)
              obtain ⟨E',hle,hR,hG⟩:=grow cps (by omega) g2
              refine ⟨_,_,E',?_,hle,hR,hG⟩
              have hfit:=growslice_fits (need:=n+m) (old:=cps) (by omega) hbytes
              exact run_append_grow (P:=X.P) w t ty0 e' i2 z hd hi2 hz ⟨k,0,none⟩ n cps os (by rw [lo,hs2]) (co _ rfl).2 px m cpx ns (by rw [ln,hs2]) hnews (by omega) (by omega) hfit
        ·cases e
def AppOk (X:Px):Prop:=∀ nm args new st args',X.T.app nm args new st=some args'→∀ own0 w0 E w,G X own0 w0 E st w→∀ vs us ns,RL E args vs→RL E new ns→X.RP nm vs us →
 ∃ vs',RL E args' vs'∧X.RP nm vs' (us++ns)
theorem noOwn_ok {b:Nat}:∀ {l:List (Nat×SlI)},noOwn b l=true→∀ id c nm args,lk l id=some (.own c nm args)→c≠b
 | [],h,id,c,nm,args,e=>by simp [lk] at e
 | (i,x)::l,h,id,c,nm,args,e=>by
  rw [lk_cons] at e
  split at e
  ·cases e
   simp only [noOwn,Bool.and_eq_true,Bool.not_eq_true'] at h
   exact nbeq_false h.1
  ·refine noOwn_ok (l:=l) ?_ id c nm args e
   cases x <;> simp only [noOwn,Bool.and_eq_true] at h <;> first | exact h | exact h.2
theorem appendO_ok (hT:TabOk X) (hA:AppOk X) (g:G X own0 w0 E st w) {t ty0:Nat} {s x v:SV} {us ux:Value} {st':St} (e:appendO X.T st t s x=some (v,st')) (hs:R E s us) (hx:R E x ux) :
  ∃ y w' E',(Builtin.append_ #[t,t] ty0 #[us,ux]).run X.P w=.ok y w'∧E.le E'∧R E' v y∧G X own0 w0 E' st' w':=by
 unfold appendO at e
 split at e
 ·rename_i i
  split at e
  ·rename_i b nm hd args ty hl hty
   obtain ⟨d,it,hd1,hi,hs1,hu⟩:=typ_some hT hty
   split at e
   ·rename_i el hund
    rw [hund] at hu
    cases d <;> simp [UDok] at hu
    rename_i el1
    subst hu
    split at e
    ·rename_i y e' sz' kk lo hi0 hel hoe hrng
     obtain ⟨d2,i2,hd2,hi2,hs2,hb2,hu2,ha2,hl2,z,hz,hzr⟩:=hT.ty el1 y hel
     have hzs:z.cells.size=y.size:=by have:=RL_length (hzr E); simp at this; omega
     split at e
     ·rename_i new m h2 h4
      simp only [cond_eq_ite,Bool.and_eq_true,Nat.ble_eq,decide_eq_true_eq] at e
      split at e
      ·rename_i hc
       obtain ⟨c1,c2,c3,c4,c5,c6,c7,c8⟩:=hc
       have q1:=nbeq c1
       have q2:=nbeq c2
       subst q1 q2
       have hm:0<m:=Nat.le_of_ble_eq_true c3
       have hsz:0<y.size:=Nat.le_of_ble_eq_true c6
       split at e
       ·rename_i args' happ
        cases e
        obtain ⟨h0,base,ln,cap,vs,k1,k2,k3,k4⟩:=g.sls i _ hl
        simp only [R] at hs
        obtain ⟨base',ln',cap',k1',hs⟩:=hs
        rw [k1] at k1'
        cases k1'
        subst hs
        obtain ⟨e2,sz2,rest,o1,o2,o3⟩:=k4
        rw [hoe] at o1
        simp only [Option.some.injEq,Prod.mk.injEq] at o1
        obtain ⟨o1a,o1b⟩:=o1
        subst o1a o1b o2
        obtain ⟨kh,krest⟩:=RL_cons.1 k2
        have hln:lo≤ln∧(ln:Int)≤hi0:=by
         obtain ⟨z',hz',b1,b2⟩:=rng_ok g hrng kh
         cases hz'
         exact ⟨b1,b2⟩
        obtain ⟨bx,cpx,ns,rfl,rn,lnn,nn,cn⟩:=cellsS_ok g h2 h4 hx
        obtain ⟨px,rfl⟩:∃ p,bx=some p:=by
         cases bx with
         | none=>have:=(nn rfl).1; omega
         | some p=>exact ⟨p,rfl⟩
        have hnews:=(cn px rfl).2
        have hone:=allCell_one rn c7
        have c4':(hi0:Int)+(m:Int)≤1000000:=c4
        have hnm:ln+m≤1000000:=by omega
        have hbytes:(ln+m)*i2.bytes≤140737488355328:=by
         rw [hb2]
         have:(ln+m)*y.bytes≤1000000*1000000:=Nat.mul_le_mul hnm c5
         omega
        have hhead:∀ E':Env,R E' (.int .i64 (.r (lo+(m:Int)) (hi0+(m:Int)))) (.int .i64 ((ln+m:Nat):Int)):=fun E'=>by
         simp only [R,SIok]
         exact ⟨((ln+m:Nat):Int),⟨by omega,by omega⟩,rfl⟩
        have hoth:∀ id c nm' args',lk (del st.sls i) id=some (.own c nm' args')→c≠b:=fun id c nm' args' h=>noOwn_ok c8 id c nm' args' h
        have hless:∀ {w':World},G X own0 w0 E st w'→G X own0 w0 E { st with heap:=del st.heap b,sls:=del st.sls i } w':=fun {w'} g'=>g'.less (fun id blk h=>by
          rw [lk_del] at h
          split at h
          ·cases h
          ·exact h) (fun id j h=>by
          rw [lk_del] at h
          split at h
          ·cases h
          ·exact h) (fun id b0 nm' args' h=>by
          have hb:=hoth id b0 nm' args' h
          rw [lk_del] at h
          split at h
          ·cases h
          ·rw [lk_del,if_neg hb]
           exact (g'.sls id _ h).1)
        have hnogl:∀ k,(∀ gg cs,X.T.gl gg=some cs→gg≠k)→True:=fun _ _=>trivial
        have grow:∀ (old':Nat) (os:List Value),os.length=ln*y.size→X.RP nm rest os→old'<ln+m→∃ E',E.le E' ∧
          R E' (.sl (st.nid+1)) (.slice (some ⟨w.heap.size,0,none⟩) (ln+m) (grownCap w (ln+m) old' e')) ∧
          G X own0 w0 E' (ownSt st b i nm (.int .i64 (.r (lo+Int.ofNat m) (hi0+Int.ofNat m))::args'))
           (w.drew.alloc (.cells (os.toArray++ns.toArray++Builtin.zeroCells z.cells (grownCap w (ln+m) old' e' - (ln+m))) e')):=by
         intro old' os hos hrp ho
         have hge:=grownCap_ge' w (ln+m) old' e'
         obtain ⟨vs',hv1,hv2⟩:=hA nm args new st args' happ own0 w0 E w g rest os ns krest rn hrp
         have g1:=hless g
         have g2:=g1.drew.ext (ext_alloc w.drew (.cells (os.toArray++ns.toArray++Builtin.zeroCells z.cells (grownCap w (ln+m) old' e' - (ln+m))) e')) rfl rfl rfl
         refine g2.addOwn (n:=w.heap.size) (nm:=nm) (len:=ln+m) (cap:=grownCap w (ln+m) old' e') (args:=.int .i64 (.r (lo+Int.ofNat m) (hi0+Int.ofNat m))::args') (vs:=.int .i64 ((ln+m:Nat):Int)::vs') (by simp) (.inr g.size) ?_ ?_ ?_ ?_ (RL_cons.2 ⟨hhead E,hv1⟩)
         ·intro id blk hl hc
          have:=(g1.hown hl hc).1
          omega
         ·intro id l base ln' c hl hE q hq
          obtain ⟨b',l',c',k1,_,_,_,k5⟩:=g1.sls id _ hl
          rw [hE] at k1
          cases k1
          have:=(k5 q hq).1
          omega
         ·intro gg cs hgg
          have:=(g1.gl gg cs hgg).1
          omega
         ·refine ⟨e',y.size,vs',hoe,rfl,.inr ⟨w.heap.size,_,rfl,heap_alloc_new w.drew _,?_,hge,?_⟩⟩
          ·simp only [Array.size_append,List.size_toArray,size_zeroCells,hzs,hos,lnn,← Nat.add_mul]
           congr 1
           omega
          ·have:(os++ns).length=(ln+m)*y.size:=by rw [List.length_append,hos,lnn,Nat.add_mul]
           rw [← this]
           simp only [Array.toList_append]
           rw [List.take_append_of_le_length (by simp),List.take_of_length_le (by simp)]
           exact hv2
        rcases o3 with ⟨rfl,hl0,hc0,hrp⟩ | ⟨n,us,rfl,hobj,husz,hlc,hrp⟩
        ·have hl0':ln=0:=hl0
         subst hl0'
         subst hc0
         obtain ⟨E',hle,hR,hG⟩:=grow 0 [] (by simp) hrp (by omega)
         refine ⟨_,_,E',?_,hle,hR,hG⟩
         have:=run_append_nil (P:=X.P) w t ty0 e' i2 z hd1 hi2 hz px m cpx ns (by rw [lnn,hs2]) hnews hm (by omega) (by simp only [Nat.zero_add] at hbytes; omega)
         simpa using this
        ·have hEb:E b=some (.blk n):=k3 _ rfl
         simp only [Option.bind_some] at hobj
         have hnown:n<w.heap.size∧(own0 n∨w0.heap.size≤n):=⟨(g.hown h0 hEb).1,by
          rcases (g.hown h0 hEb).2 with h | h
          ·cases h
          ·exact h⟩
         have hos:(us.toList.take (ln*y.size)).length=ln*y.size:=by
          rw [List.length_take,Array.length_toList,husz,Nat.min_eq_left (Nat.mul_le_mul_right _ hlc)]
         by_cases hroom:ln+m≤cap
         ·have hfit:ln*y.size+ns.length≤us.size:=by rw [lnn,← Nat.add_mul,husz]; exact Nat.mul_le_mul_right _ hroom
          have hrun:=run_append_room (P:=X.P) w t ty0 e' i2 hd1 hi2 n ln cap us hobj px m cpx ns (by rw [lnn,hs2]) hnews hone hroom (by rw [hs2]; exact hfit)
          rw [hs2] at hrun
          obtain ⟨vs',hv1,hv2⟩:=hA nm args new st args' happ own0 w0 E w g rest _ ns krest rn hrp
          have g1:=hless g
          have s1:∀ id blk,lk (del st.heap b) id=some blk→E id≠some (.blk n):=by
           intro id blk h hc
           rw [lk_del] at h
           split at h
           ·cases h
           ·rename_i hne
            exact hne (g.inj _ _ _ _ _ h h0 hc hEb)
          have s2:∀ id l base ln c,lk (del st.sls i) id=some (.bytes l)→E id=some (.sl base ln c)→∀ x,base=some x→x.block≠n:=by
           intro id l base ln' c h hE2 q hq
           rw [lk_del] at h
           split at h
           ·cases h
           ·obtain ⟨b2,l2,c2',k1',_,_,_,k5'⟩:=g.sls id _ h
            rw [hE2] at k1'
            cases k1'
            exact fun hh=>(k5' q hq).2 b _ h0 (by rw [hEb,hh])
          have s3:∀ gg cs,X.T.gl gg=some cs→gg≠n:=by
           intro gg cs2 hgg hh
           exact (g.gl gg cs2 hgg).2.1 b _ h0 (by rw [hEb,hh])
          have g2:=g1.wild (n:=n) (vs':=(us.toList.take (ln*y.size)++ns++us.toList.drop (ln*y.size+ns.length)).toArray) hobj hnown.2 s1 s2 s3
          obtain ⟨E',hle,hR,hG⟩:=g2.addOwn (n:=n) (nm:=nm) (len:=ln+m) (cap:=cap) (args:=.int .i64 (.r (lo+Int.ofNat m) (hi0+Int.ofNat m))::args') (vs:=.int .i64 ((ln+m:Nat):Int)::vs') (by simp; exact hnown.1) hnown.2 s1 s2 s3
           (⟨e',y.size,vs',hoe,rfl,.inr ⟨n,_,rfl,setRow_heap w n us _ e' _ hobj,by simp; omega,hroom,by
            have h9:(us.toList.take (ln*y.size)++ns).length=(ln+m)*y.size:=by rw [List.length_append,hos,lnn,Nat.add_mul]
            simp only []
            rw [← h9,List.take_append_of_le_length (by simp),List.take_of_length_le (by simp)]
            exact hv2⟩⟩) (RL_cons.2 ⟨hhead E,hv1⟩)
          exact ⟨_,_,E',hrun,hle,hR,hG⟩
         ·obtain ⟨E',hle,hR,hG⟩:=grow cap _ hos hrp (by omega)
          refine ⟨_,_,E',?_,hle,hR,hG⟩
          have hfit:=growslice_fits (need:=ln+m) (old:=cap) (by omega) hbytes
          have hcell:∀ j u,(us.toList.take (ln*y.size))[j]?=some u→w.cell? ((⟨n,0,none⟩:Addr).add j)=some u:=fun j u hu=>by
           rw [add_none,Nat.zero_add,cell_at hobj]
           rw [List.getElem?_take] at hu
           split at hu
           ·simpa using hu
           ·cases hu
          exact run_append_grow (P:=X.P) w t ty0 e' i2 z hd1 hi2 hz ⟨n,0,none⟩ ln cap _ (by rw [hos,hs2]) hcell px m cpx ns (by rw [lnn,hs2]) hnews (by omega) (by omega) hfit
       ·cases e
      ·cases e
     ·cases e
    ·cases e
   ·cases e
  ·cases e
 ·cases e
end SE
end
section
namespace SE
variable {X:Px} {own0:Nat→Prop} {w0 w:World} {E:Env} {st:St} {tm:TT} {a:Act}
theorem allByte_ok:∀ {l:List SV} {vs:List Value},RL E l vs→allByte l=true→AllB vs
 | [],vs,h,_=>by rw [RL_nil.1 h]; intro v hv; cases hv
 | x::l,[],h,_=>by simp [RL] at h
 | x::l,v::vs,h,hb=>by
  simp only [allByte,Bool.and_eq_true] at hb
  intro u hu
  rcases List.mem_cons.1 hu with rfl | hu
  ·have hx:=(RL_cons.1 h).1
   have h1:=hb.1
   unfold isByte at h1
   split at h1
   ·simp only [Bool.and_eq_true,decide_eq_true_eq] at h1
    simp only [R,SIok] at hx
    obtain ⟨z,hz,rfl⟩:=hx
    exact ⟨z,by omega,by omega,rfl⟩
   ·cases h1
  ·exact allByte_ok (RL_cons.1 h).2 hb.2 u hu
theorem bytesArg_ok (g:G X own0 w0 E st w) {x:SV} {u:Value} {l:SI} (e:bytesArg st x=some l) (h:R E x u) :
  ∃ base ln c us,u=.slice base ln c∧SIok E l ln∧us.length=ln∧AllB us∧(base=none→ln=0)∧∀ p,base=some p→p.spot=none∧p.block<w.heap.size∧∀ j v,us[j]?=some v→w.cell? (p.add j)=some v:=by
 cases x <;> simp only [bytesArg] at e <;> try cases e
 case slc b off len cap =>
  cases hc:cellsS st 1 (.slc b off len cap) with
  | none=>simp only [hc] at e; cases e
  | some cs =>
   simp only [hc,cond_eq_ite] at e
   split at e
   ·rename_i hb
    cases e
    have hlen:lenC st (.slc b off len cap)=some len:=by simp [lenC,lenS,Nat.beq_refl]
    obtain ⟨base,c,us,he,hr,hl,hn,hcell⟩:=cellsS_ok g hc hlen h
    refine ⟨base,len,c,us,he,by simp [SIok],by simpa using hl,allByte_ok hr hb,fun hh=>(hn hh).1,fun p hp=>?_⟩
    refine ⟨(hcell p hp).1,?_,(hcell p hp).2⟩
    simp only [R] at h
    obtain ⟨m,hm,h2⟩:=h
    rw [he] at h2
    subst hp
    cases h2
    simp only [cellsS] at hc
    cases hl2:lk st.heap b with
    | none=>simp only [hl2] at hc; cases hc
    | some blk =>
     exact (g.hown hl2 hm).1
   ·cases e
 case nils =>
  simp only [R] at h
  exact ⟨none,0,0,[],h,by simp [SIok],rfl,fun v hv=>(by cases hv),fun _=>rfl,fun p hp=>(by cases hp)⟩
 case sl i =>
  simp only [R] at h
  obtain ⟨base,ln,cp,hE,rfl⟩:=h
  cases hl:lk st.sls i with
  | none=>simp only [hl] at e; cases e
  | some s =>
   have hsl:=g.sls i s hl
   cases s <;> simp only [hl] at e <;> try cases e
   obtain ⟨base',ln',cap',hE',hsi,hlc,hbr,hst⟩:=hsl
   rw [hE] at hE'
   cases hE'
   cases base with
   | none=>simp only [ByteRow] at hbr; exact ⟨none,ln,cp,[],rfl,hsi,by simp [hbr],fun v hv=>(by cases hv),fun _=>hbr,fun p hp=>(by cases hp)⟩
   | some p =>
    obtain ⟨h1,vs,e,fr,h2,h3⟩:=hbr
    have hex:∃ f:Nat→Int,∀ i,i<ln→0≤f i∧f i≤255∧vs[p.off+i]?=some (.int .u8 (f i)):=by
     refine ⟨fun i=>match vs[p.off+i]? with | some (.int _ z)=>z | _=>0,fun i hi=>?_⟩
     obtain ⟨z,z1,z2,z3⟩:=h3 i hi
     simp only [z3]
     exact ⟨z1,z2,trivial⟩
    obtain ⟨f,hf⟩:=hex
    refine ⟨some p,ln,cp,(List.range ln).map fun i=>Value.int .u8 (f i),rfl,hsi,by simp,?_,fun hh=>(by cases hh),fun q hq=>?_⟩
    ·intro v hv
     simp only [List.mem_map,List.mem_range] at hv
     obtain ⟨i,hi,rfl⟩:=hv
     have:=hf i hi
     exact ⟨f i,this.1,this.2.1,rfl⟩
    ·cases hq
     refine ⟨h1,(hst p rfl).1,fun j v hv=>?_⟩
     simp only [List.getElem?_map,Option.map_eq_some_iff] at hv
     obtain ⟨k,hk,rfl⟩:=hv
     rw [List.getElem?_eq_some_iff] at hk
     obtain ⟨hj,hk⟩:=hk
     simp at hj hk
     subst hk
     rw [add_spot h1,cell_at h2]
     exact (hf j hj).2.2
theorem lenC_ok (g:G X own0 w0 E st w) {x:SV} {u:Value} {n:Nat} (hn:lenC st x=some n) (h:R E x u):∃ b c,u=.slice b n c:=by
 unfold lenC at hn
 cases hl:lenS st x with
 | none=>simp only [hl] at hn; cases hn
 | some l =>
  simp only [hl] at hn
  split at hn
  ·rename_i n1 m1 hl2
   cases hb:Nat.beq n1 m1 with
   | false=>simp only [hb,cond_false] at hn; cases hn
   | true =>
    simp only [hb,cond_true] at hn
    cases hn
    have:=nbeq hb
    subst this
    obtain ⟨b,m,c,rfl,hs⟩:=lenS_ok g hl h
    cases hl2
    simp only [SIok,Int.ofNat_eq_natCast] at hs
    have:m=n:=by omega
    subst this
    exact ⟨b,c,rfl⟩
  ·cases hn
theorem append0_ok (hT:TabOk X) (g:G X own0 w0 E st w) {t ty0:Nat} {s x v:SV} {us ux:Value} (e:append0 X.T st t s x=some v) (hs:R E s us) (hx:R E x ux) :
  ∃ y,(Builtin.append_ #[t,t] ty0 #[us,ux]).run X.P w=.ok y w∧R E v y:=by
 unfold append0 at e
 cases hty:X.T.ty.get t with
 | none=>simp only [hty] at e; cases e
 | some ty =>
  obtain ⟨d,i,hd,hi,hs1,hu⟩:=typ_some hT hty
  simp only [hty] at e
  cases hund:ty.und <;> simp only [hund] at e <;> try cases e
  rename_i el
  rw [hund] at hu
  cases d <;> simp [UDok] at hu
  rename_i el1
  subst hu
  cases hel:X.T.ty.get el1 with
  | none=>simp only [hel] at e; cases e
  | some y =>
   obtain ⟨d2,i2,hd2,hi2,hs2,hu2⟩:=typ_some hT hel
   cases hlx:lenC st x with
   | none=>simp only [hel,hlx] at e; cases e
   | some n =>
    cases n with
    | succ n=>simp only [hel,hlx] at e; cases e
    | zero =>
     obtain ⟨bx,cx,rfl⟩:=lenC_ok g hlx hx
     simp only [hel,hlx] at e
     have fin:∀ b n c,n≤c→(b=none→n=0)→(Builtin.append_ #[t,t] ty0 #[.slice b n c,.slice bx 0 cx]).run X.P w=.ok (.slice b n c) w:=by
      intro b n c hnc hb
      have hf:(Builtin.firstCells i2.size 0 (.slice bx 0 cx)).run X.P w=.ok #[] w:=by
       cases bx with
       | none=>rfl
       | some a=>simp [Builtin.firstCells,loadCells,loadCellsFrom]
      cases b with
      | none =>
       have:=hb rfl
       subst this
       simp [Builtin.append_,run_underlying hd,sizeOf,typeInfo,hi2,Builtin.lenOf,hf]
      | some a=>simp [Builtin.append_,run_underlying hd,sizeOf,typeInfo,hi2,Builtin.lenOf,hnc,hf,storeCells]
     split at e
     ·cases e
      simp only [R] at hs
      subst hs
      exact ⟨_,fin none 0 0 (Nat.le_refl _) (fun _=>rfl),by simp only [R]⟩
     ·rename_i b off len cap
      cases hb:Nat.ble len cap with
      | false=>simp only [hb,cond_false] at e; cases e
      | true =>
       simp only [hb,cond_true] at e
       cases e
       have hs':=hs
       simp only [R] at hs
       obtain ⟨m,hm,rfl⟩:=hs
       exact ⟨_,fin _ len cap (Nat.le_of_ble_eq_true hb) (fun h=>by cases h),hs'⟩
     ·rename_i i
      split at e
      ·rename_i b len hl
       split at e
       ·rename_i e' sz sid cs hh
        cases hsid:Nat.beq sid i with
        | false=>simp only [hsid,cond_false] at e; cases e
        | true =>
         have:=nbeq hsid
         subst this
         simp only [hsid,cond_true] at e
         cases e
         have hs':=hs
         simp only [R] at hs
         obtain ⟨bs,n,c,hE,rfl⟩:=hs
         rcases g.heap b _ hh with ⟨h0,_⟩ | ⟨m,hm,q1,q2,vs,len',cap',r1,r2,r3,r4,r5,r6⟩
         ·cases h0
         ·rw [hE] at r2
          cases r2
          exact ⟨_,fin _ _ _ r5 (fun h=>by cases h),hs'⟩
       ·cases e
      ·cases e
     ·cases e
theorem AllB.one {us:List Value} (h:AllB us):∀ v∈us,v.oneCell'=true:=fun v hv=>by
 obtain ⟨z,_,_,rfl⟩:=h v hv
 rfl
theorem copyS_ok (hT:TabOk X) (g:G X own0 w0 E st w) {t ty0:Nat} {ats:List Nat} {d x v:SV} {ud ux:Value} {st':St} (e:copyS X.T st t d x=some (v,st')) (hd0:R E d ud) (hx:R E x ux) :
  ∃ y w',(Builtin.copy_ (t::ats).toArray ty0 #[ud,ux]).run X.P w=.ok y w'∧R E v y∧G X own0 w0 E st' w':=by
 unfold copyS at e
 cases hty:X.T.ty.get t with
 | none=>simp only [hty] at e; cases e
 | some ty =>
  obtain ⟨dd,i,hd,hi,hs1,hu⟩:=typ_some hT hty
  simp only [hty] at e
  cases hund:ty.und <;> simp only [hund] at e <;> try cases e
  rename_i el
  rw [hund] at hu
  cases dd <;> simp [UDok] at hu
  rename_i el1
  subst hu
  cases hel:X.T.ty.get el1 with
  | none=>simp only [hel] at e; cases e
  | some y =>
   obtain ⟨d2,i2,hd2,hi2,hs2,hu2⟩:=typ_some hT hel
   simp only [hel] at e
   cases hsz:Nat.beq y.size 1 with
   | false=>simp only [hsz,cond_false] at e; cases e
   | true =>
    simp only [hsz,cond_true] at e
    have hsz:=nbeq hsz
    cases d <;> simp only at e <;> try cases e
    rename_i b off len cap
    cases hl:lk st.heap b with
    | none=>simp only [hl] at e; cases e
    | some blk =>
     rcases g.heap b blk hl with ⟨h0,_⟩ | ⟨m,hm,h2,h3,h4⟩
     ·subst h0; simp only [hl] at e; cases e
     cases blk <;> simp only [hl] at e <;> try cases e
     rename_i e2 cs
     obtain ⟨vs,k1,k2⟩:=h4
     cases hcut:cut off len cs with
     | none=>simp only [hcut] at e; cases e
     | some old =>
      cases hba:bytesArg st x with
      | none=>simp only [hcut,hba] at e; cases e
      | some l =>
       simp only [hcut,hba] at e
       cases hab:allByte old with
       | false=>simp only [hab,cond_false] at e; cases e
       | true =>
        simp only [hab,cond_true] at e
        cases hsp:splice off cs (rep len byteCell) with
        | none=>simp only [hsp] at e; cases e
        | some cs' =>
         simp only [hsp,Option.some.injEq,Prod.mk.injEq] at e
         obtain ⟨rfl,rfl⟩:=e
         simp only [R] at hd0
         obtain ⟨m',hm',rfl⟩:=hd0
         rw [hm] at hm'
         cases hm'
         obtain ⟨base,ln,c,us,rfl,hsi,hul,hub,hnone,hcell⟩:=bytesArg_ok g hba hx
         have hoc:=RL_cut k2 hcut
         have hob:=allByte_ok hoc.1 hab
         have hn:Nat.min ln len=min ln len:=rfl
         have hfirst:(Builtin.firstCells 1 (min ln len) (.slice base ln c)).run X.P w=.ok (us.take (min ln len)).toArray w:=by
          cases base with
          | none =>
           have:=hnone rfl
           subst this
           have:us=[]:=List.length_eq_zero_iff.1 hul
           subst this
           simp [Builtin.firstCells]
          | some p =>
           refine run_firstCells_some w 1 (min ln len) p ln c (us.take (min ln len)) (by simp [hul]) (fun j v hv=>?_)
           rw [List.getElem?_take] at hv
           split at hv
           ·exact (hcell p rfl).2.2 j v hv
           ·cases hv
         have htl:(us.take (min ln len)).length=min ln len:=by simp [hul]
         have hfits:len=0∨off+len≤vs.size:=by have:=hoc.2; simpa using this
         have hone:∀ v∈us.take (min ln len),v.oneCell'=true:=fun v hv=>hub.one v (List.mem_of_mem_take hv)
         let ws:=us.take (min ln len)++((vs.toList.drop off).take len).drop (min ln len)
         have hwl:ws.length=len:=by
          simp only [ws,List.length_append,htl,List.length_drop,List.length_take,Array.length_toList]
          omega
         have hwb:AllB ws:=by
          intro v hv
          rcases List.mem_append.1 hv with h | h
          ·exact hub v (List.mem_of_mem_take h)
          ·exact hob v (List.mem_of_mem_drop h)
         have hrw:RL E (rep len byteCell) ws:=by have:=hwb.rl (E:=E); rwa [hwl] at this
         have hnew:=RL_splice k2 hrw hsp
         have hst:=run_storeCells_at (P:=X.P) m off e2 (us.take (min ln len)) 0 vs w k1 (by
          have:=hnew.2
          rw [hwl,Array.length_toList] at this
          rw [htl]
          omega) hone
         have hrow:(vs.toList.take (off+0)++us.take (min ln len)++vs.toList.drop (off+0+(us.take (min ln len)).length))=(vs.toList.take off++ws++vs.toList.drop (off+ws.length)):=by
          rw [hwl,htl,Nat.add_zero]
          simp only [ws,List.append_assoc]
          congr 2
          have hd:vs.toList.drop (off+min ln len)=(vs.toList.drop off).drop (min ln len):=by rw [List.drop_drop]
          rw [hd,List.drop_take]
          have hle:min ln len≤len:=Nat.min_le_right _ _
          have h5:vs.toList.drop (off+len)=((vs.toList.drop off).drop (min ln len)).drop (len - min ln len):=by
           rw [List.drop_drop,List.drop_drop]
           congr 1
           omega
          rw [h5,List.take_append_drop]
         rw [hrow] at hst
         refine ⟨.int .i64 (min ln len:Nat),_,?_,?_,g.setRow hl rfl hm k1 ⟨_,setRow_heap w m vs _ e2 _ k1,by simpa using hnew.1⟩⟩
         ·simp [Builtin.copy_,und_run hd,Builtin.lenOf,size_run hi2,hs2,hsz,goInt]
          rw [show Nat.min ln len=min ln len from rfl,hfirst]
          simp only [Result.andThen_ok]
          rw [hst]
          simp
         ·simp only [R,SIok,Int.ofNat_eq_natCast]
          exact ⟨_,⟨by omega,by omega⟩,rfl⟩
end SE
end
section
namespace SE
variable {X:Px} {own0:Nat→Prop} {w0 w:World} {E:Env} {st:St} {tm:TT} {a:Act}
def Outs (X:Px) (own0:Nat→Prop) (w0:World) (E:Env) (l:Out) (e:Ending) (w':World):Prop :=
 ∃ o∈l,∃ E' x,E.le E'∧e=.returned x∧R E' o.1 x∧G X own0 w0 E' o.2 w'
def CallOk (X:Px) (own0:Nat→Prop) (w0:World) (call:Nat→List SV→St→Option Out):Prop :=
 ∀ g args st l,call g args st=some l→(∃ fn,X.T.fn.get g=some fn)∧∀ E w (vals:Array Value),G X own0 w0 E st w→RL E args vals.toList→Calls X.P g vals w (Outs X own0 w0 E l)
structure RkOk (X:Px):Prop where
 app:AppOk X
 fn:∀ g,X.T.rkB g=true→∃ fn,X.T.fn.get g=some fn
 ok:∀ g args st v,X.T.rkB g=true→X.T.rk g args st=some v→∀ own0 w0 E w,G X own0 w0 E st w→∀ vals:Array Value,RL E args vals.toList →
  ∃ x,R E v x∧∀ w',Ext0 w w'→Calls X.P g vals w' (fun e w''=>e=.returned x∧w''=w')
def YlAt (P:Program) (s:Sem Next) (x:Value) (w:World):Prop :=
 ∀ w',Ext0 w w'→s.run P w'=.ok (.value x) w'∨∃ g args,s.run P w'=.ok (.enter g args) w'∧Calls P g args w' (fun e w''=>e=.returned x∧w''=w')
theorem Yl.at (P:Program) {s:Sem Next} {x:Value} (h:Yl P s x) (w:World):YlAt P s x w:=by
 intro w' _
 rcases h with h | ⟨g,args,h1,h2⟩
 ·exact .inl (h w')
 ·exact .inr ⟨g,args,h1 w',h2 w'⟩
theorem readOp_ok (hT:TabOk X) (hR:RkOk X) (g:G X own0 w0 E st w) (f:FOk E tm a) {o:Oper} {v:SV} (e:readOp X.T tm st o.op=some v):∃ x,R E v x∧YlAt X.P (execOp a.eval o) x w:=by
 obtain ⟨dst,op,type,pos,after,guard⟩:=o
 cases op <;> simp only [readOp] at e <;> try cases e
 case load t x =>
  obtain ⟨z,hz,hrun⟩:=loadS_ok hT g e (f.eval x)
  exact ⟨z,hz,fun w' hw=>.inl (by simpa [execOp] using v_run (hrun w' hw))⟩
 case call c =>
  obtain ⟨callee,args,ats⟩:=c
  cases callee <;> simp only at e <;> try cases e
  rename_i fo
  cases fo <;> simp only at e <;> try cases e
  rename_i gg
  cases hpk:X.T.rkB gg with
  | false=>simp only [hpk,cond_false] at e; cases e
  | true =>
   simp only [hpk,cond_true,fL_eq] at e
   obtain ⟨fn,hfn⟩:=hR.fn gg hpk
   obtain ⟨x,hx,hcall⟩:=hR.ok gg _ st v hpk e own0 w0 E w g (args.map a.eval) (by simpa using f.evalL args.toList)
   refine ⟨x,hx,fun w' hw=>.inr ⟨gg,args.map a.eval,?_,hcall w' hw⟩⟩
   have:=callv_run hT hfn a.eval (.func gg) args ats type #[] #[] rfl w'
   simpa [execOp] using this
def Post (X:Px) (own0:Nat→Prop) (w0:World) (E:Env) (l:List Sx) (K:Act→World→Prop):Prop :=
 ∀ s∈l,∀ E' a' w',E.le E'→G X own0 w0 E' s.2 w'→FOk E' s.1 a'→K a' w'
theorem oneM_eq (dst:Option Nat) (tm:TT) (v:SV) (st:St):oneM dst tm v st=some [(putD tm dst v,st)]:=by
 obtain ⟨h,t,s,n,f⟩:=st
 simp only [oneM,fV_eq,putK_eq,fH1_eq,fN_eq]
theorem one_eq (dst:Option Nat) (tm:TT) (v:SV) (st:St):one dst tm v st=some [(putD tm dst v,st)]:=by
 simp only [one,fV_eq,putK_eq,fSt_eq,fStM_eq,fStT_eq]
theorem one0_eq (dst:Option Nat) (tm:TT) (v:SV) (st:St):one0 dst tm v st=some [(putD tm dst v,st)]:=by
 simp only [one0,fV_eq,putK_eq]
theorem outs_mem {dst:Option Nat} {tm:TT}:∀ {l:Out} {o:SV×St},o∈l→(putD tm dst o.1,o.2)∈outs dst tm l
 | (v,st)::l,o,h=>by
  simp only [outs,fV_eq,putK_eq,fSt_eq,fStM_eq,fStT_eq]
  rcases List.mem_cons.1 h with rfl | h
  ·exact List.mem_cons_self
  ·exact List.mem_cons_of_mem _ (outs_mem h)
theorem wp_value {P:Program} {o:Oper} {K:Act→World→Prop} {Q:Exit→Act→World→Prop} {w w':World} {x:Value} (h:(execOp a.eval o).run P w=.ok (.value x) w') (hk:K (a.put o.dst x) w'):o.wp P a w K Q:=by
 unfold Oper.wp; rw [h]; exact hk
theorem wp_skip' {P:Program} {o:Oper} {K:Act→World→Prop} {Q:Exit→Act→World→Prop} {w w':World} (h:(execOp a.eval o).run P w=.ok .skip w') (hk:K (a.put o.dst undef) w'):o.wp P a w K Q:=by
 unfold Oper.wp; rw [h]; exact hk
theorem wp_enter {P:Program} {o:Oper} {K:Act→World→Prop} {Q:Exit→Act→World→Prop} {w w':World} {g:FuncId} {args:Array Value} (h:(execOp a.eval o).run P w=.ok (.enter g args) w')
  {R':Ending→World→Prop} (hc:Calls P g args w' R') (hk:∀ e w'',R' e w''→∃ x,e=.returned x∧K (a.put o.dst x) w''):o.wp P a w K Q:=by
 unfold Oper.wp; rw [h]
 refine hc.mono fun e w'' hr=>?_
 obtain ⟨x,rfl,hx⟩:=hk e w'' hr
 exact hx
theorem ylAt_wp {P:Program} {o:Oper} {K:Act→World→Prop} {Q:Exit→Act→World→Prop} {x:Value} (h:YlAt P (execOp a.eval o) x w) (hk:K (a.put o.dst x) w):o.wp P a w K Q:=by
 rcases h w (Ext0.refl w) with h | ⟨g,args,h1,h2⟩
 ·exact wp_value h hk
 ·exact wp_enter h1 h2 fun e w'' hh=>⟨x,hh.1,by rw [hh.2]; exact hk⟩
theorem RL_two {s x:SV} {vs:List Value} (h:RL E [s,x] vs):∃ u1 u2,vs=[u1,u2]∧R E s u1∧R E x u2:=by
 simp only [RL] at h
 obtain ⟨v,vs',rfl,h1,v2,vs2,rfl,h2,rfl⟩:=h
 exact ⟨v,v2,rfl,h1,h2⟩
theorem inv_run (hT:TabOk X) {t g:Nat} {nm:String} {fn:Func} {v x:Value} {w:World} (hm:(method (X.P.types.size+Made.depth) t v nm).run X.P w=.ok (g,x) w) (hfn:X.T.fn.get g=some fn) (ρ:Operand→Value) {r:Operand} (args:Array Operand) (ats:Array TypeId) (ty:TypeId)
  (hr:ρ r=.iface t v):(do let d←resolve ρ ⟨.invoke r nm,args,ats⟩ ty; invoke d.target d.args:Sem Next).run X.P w=.ok (.enter g (#[x]++args.map ρ)) w:=by
 have hext:((#[Value.iface t v]++args.map ρ).extract 1 (#[Value.iface t v]++args.map ρ).size)=args.map ρ:=by
  apply Array.ext'
  simp only [Array.toList_extract,Array.toList_append,Array.toList_map,List.extract_eq_take_drop,List.cons_append,List.nil_append,Array.size_append,Array.size_map,List.size_toArray,List.length_cons,List.length_nil,List.drop_succ_cons,List.drop_zero]
  apply List.take_of_length_le
  simp
 have h0:(#[Value.iface t v]++args.map ρ)[0]?=some (.iface t v):=by
  rw [Array.getElem?_append_left (by simp)]
  rfl
 simp only [resolve,hr,Sem.run_bind,Sem.run_pure,Result.andThen_ok,invoke]
 simp only [h0,hext,callMethod,Sem.run_bind,run_program,Result.andThen_ok,hm]
 exact call_run hT hfn _ w
theorem intKey_ok (hT:TabOk X) {t:Nat} (h:intKey X.T t=true):∃ k e,X.P.underlying t=some (.map k e)∧X.P.underlying k=some (.int .i64):=hT.ik t h
theorem keyN_ok {v:SV} {u:Value} {n:Int} (h:keyN v=some n) (hr:R E v u):u=.int .i64 n:=by
 unfold keyN at h
 split at h
 ·rename_i a b
  simp only [cond_eq_ite,decide_eq_true_eq] at h
  split at h
  ·rename_i hab
   cases h
   subst hab
   simp only [R,SIok] at hr
   obtain ⟨z,hz,rfl⟩:=hr
   congr 1
   omega
  ·cases h
 ·cases h
theorem lkM_none:∀ {es:List (Int×SV)} {ms:List MapEntry} {n:Int},lkM es n=none→RM E es ms→∀ i,Instr.findNow (.int .i64) (.int .i64 n) ms i=some none
 | [],ms,n,h,r,i=>by simp only [RM] at r; subst r; simp [Instr.findNow]
 | (k,v)::l,ms,n,h,r,i=>by
  simp only [RM] at r
  obtain ⟨m,ms',rfl,h1,h2,h3⟩:=r
  simp only [lkM,cond_eq_ite,decide_eq_true_eq] at h
  split at h
  ·cases h
  ·rename_i hne
   have:(n == k)=false:=by simp; exact fun hh=>hne hh.symm
   simp [Instr.findNow,h1,Instr.sameNow,this]
   exact lkM_none h h3 (i+1)
theorem lkM_some:∀ {es:List (Int×SV)} {ms:List MapEntry} {n:Int} {v:SV},lkM es n=some v→RM E es ms→∀ i,∃ j x,Instr.findNow (.int .i64) (.int .i64 n) ms i=some (some (j,x))∧R E v x
 | [],ms,n,v,h,r,i=>by simp [lkM] at h
 | (k,v')::l,ms,n,v,h,r,i=>by
  simp only [RM] at r
  obtain ⟨m,ms',rfl,h1,h2,h3⟩:=r
  simp only [lkM,cond_eq_ite,decide_eq_true_eq] at h
  split at h
  ·rename_i he
   cases h
   subst he
   exact ⟨i,m.val,by simp [Instr.findNow,h1,Instr.sameNow],h2⟩
  ·rename_i hne
   have:(n == k)=false:=by simp; exact fun hh=>hne hh.symm
   obtain ⟨j,x,q1,q2⟩:=lkM_some h h3 (i+1)
   exact ⟨j,x,by simp [Instr.findNow,h1,Instr.sameNow,this]; exact q1,q2⟩
theorem RM_push:∀ {es:List (Int×SV)} {ms:List MapEntry} {n:Int} {v:SV} {x:Value} {c:Nat},RM E es ms→R E v x→RM E (es++[(n,v)]) (ms++[{ key:=.int .i64 n,val:=x,born:=c }])
 | [],ms,n,v,x,c,r,h=>by
  simp only [RM] at r
  subst r
  exact ⟨_,_,rfl,rfl,h,rfl⟩
 | (k,v')::l,ms,n,v,x,c,r,h=>by
  simp only [RM] at r
  obtain ⟨m,ms',rfl,h1,h2,h3⟩:=r
  exact ⟨m,_,rfl,h1,h2,RM_push h3 h⟩
theorem checkKey_int {P:Program} {k:Nat} (h:P.underlying k=some (.int .i64)) (b:Bool) (n:Int) (w:World):(Instr.checkKey b 10000 k (.int .i64 n)).run P w=.ok () w:=by
 have:Instr.checkKey b 10000 k (.int .i64 n)=Instr.checkKey b (9999+1) k (.int .i64 n):=rfl
 rw [this,Instr.checkKey,Sem.run_bind,und_run h]
 rfl
theorem getObj_run {P:Program} {w:World} {r:Nat} {ms:Array MapEntry} {c:Nat} (hb:w.heap[r]?=some (.map ms c)):(getObj r).run P w=.ok (.map ms c) w:=by
 simp [getObj,Sem.run,hb]
theorem setObj_run {P:Program} {w:World} {r:Nat} {ms:Array MapEntry} {c:Nat} (o:Obj) (hb:w.heap[r]?=some (.map ms c)):(setObj r o).run P w=.ok () { w with heap:=w.heap.setIfInBounds r o }:=by
 simp [setObj,Sem.run,hb]
theorem opStep_wp (hT:TabOk X) (hP:PkOk X) (hR:RkOk X) {call:Nat→List SV→St→Option Out} (hC:CallOk X own0 w0 call) (g:G X own0 w0 E st w) (f:FOk E tm a) {o:Oper} {l:List Sx}
  (e:opStep X.T call tm st o=some l) {K:Act→World→Prop} {Q:Exit→Act→World→Prop} (hK:Post X own0 w0 E l K):o.wp X.P a w K Q:=by
 unfold opStep at e
 have done:∀ {v:SV} {x:Value} {w':World} {E':Env} {st':St},l=[(putD tm o.dst v,st')]→E.le E'→R E' v x→G X own0 w0 E' st' w'→K (a.put o.dst x) w':=by
  intro v x w' E' st' hl hle hv hg
  subst hl
  exact hK (putD tm o.dst v,st') (by simp) E' _ w' hle hg ((f.mono hle).put o.dst hv)
 have named:∀ {v:SV} {x:Value},YlAt X.P (execOp a.eval o) x w→R E v x→readPut X.T o.dst tm v st=some l→o.wp X.P a w K Q:=by
  intro v x hy hx e
  unfold readPut at e
  split at e
  ·rename_i k lo hi hb
   cases hn:X.T.nameB with
   | false=>rw [hn] at hb; cases hb
   | true =>
    rw [hn] at hb
    simp only [cond_true] at hb
    unfold wideI at hb
    split at hb
    ·rename_i k' lo' hi'
     simp only [cond_eq_ite] at hb
     split at hb
     ·cases hb
     ·cases hb
      simp only [one_eq,Option.some.injEq] at e
      simp only [R,SIok] at hx
      obtain ⟨z,hz,rfl⟩:=hx
      have hle:=Env.le_upd (x:=EV.z z) g.nid_none
      have g1:=g.mono hle (fun id hid=>Env.upd_ne _ _ (by omega)) (Nat.le_succ _) (dom_upd g _)
      refine ylAt_wp hy (done e.symm hle (by simp only [R,SIok]; exact ⟨z,Env.upd_self _ _ _,rfl⟩) ?_)
      refine ⟨g1.size,g1.os,g1.tape,g1.output,g1.frame,g1.heap,g1.inj,fun id lo' hi' hl=>?_,fun id i hl=>?_,g1.dom,g1.gl,g1.facts⟩
      ·simp only [lk_cons] at hl
       split at hl
       ·rename_i he
        subst he
        cases hl
        exact ⟨z,Env.upd_self _ _ _,hz.1,hz.2⟩
       ·exact g1.tab id lo' hi' hl
      ·have:=g1.sls id i hl
       cases i <;> exact this
    ·cases hb
  ·simp only [one0_eq,Option.some.injEq] at e
   exact ylAt_wp hy (done e.symm (Env.le_refl E) hx g)
 cases hp:pureOp X.T tm st o.op with
 | some v =>
  simp only [hp,cond_eq_ite] at e
  obtain ⟨x,hx,hy⟩:=pureOp_ok hT hP g f hp
  split at e
  ·exact named (hy.at _ w) hx e
  ·simp only [one0_eq,Option.some.injEq] at e
   exact ylAt_wp (hy.at _ w) (done e.symm (Env.le_refl E) hx g)
 | none =>
  simp only [hp] at e
  cases hn:nameOp X.T tm st o.op with
  | some q =>
   obtain ⟨v,st'⟩:=q
   simp only [hn,one_eq,oneM_eq,Option.some.injEq] at e
   obtain ⟨x,E',hle,hx,hy,hg⟩:=nameOp_ok hT g f hn
   exact ylAt_wp (hy.at _ w) (done e.symm hle hx (hg w g))
  | none =>
   simp only [hn] at e
   cases hr:readOp X.T tm st o.op with
   | some v =>
    obtain ⟨x,hx,hy⟩:=readOp_ok hT hR g f hr
    simp only [hr] at e
    exact named hy hx e
   | none =>
    simp only [hr] at e
    clear hp hn hr
    obtain ⟨dst,op,type,pos,after,guard⟩:=o
    cases op <;> simp only [memOp] at e <;> try cases e
    case makeMap t r =>
     cases r <;> simp only [mapOp] at e <;> try cases e
     simp only [one_eq,oneM_eq,Option.some.injEq] at e
     have hle:=Env.le_upd (x:=EV.blk w.heap.size) g.nid_none
     refine wp_value (x:=.map (some w.heap.size)) (w':=w.alloc (.map #[] 0)) (by simp [execOp,Instr.makeMap]) ?_
     exact done e.symm hle (by simp only [R]; exact ⟨_,Env.upd_self _ _ _,rfl⟩) (g.newK (nb:=.map []) ⟨#[],0,heap_alloc_new w _,rfl⟩)
    case insert t m k x =>
     simp only [mapOp,cond_eq_ite] at e
     split at e
     ·rename_i hik
      obtain ⟨kt,et,hu,huk⟩:=intKey_ok hT hik
      have hm:=f.eval m
      cases hmv:rho tm m <;> rw [hmv] at hm <;> simp only [hmv] at e <;> try cases e
      rename_i b
      cases hkn:keyN (rho tm k) with
      | none=>simp only [hkn] at e; cases e
      | some n =>
       have hkv:=keyN_ok hkn (f.eval k)
       simp only [hkn] at e
       simp only [R] at hm
       obtain ⟨nb,hnb,hmval⟩:=hm
       cases hl:lk st.heap b with
       | none=>simp only [hl] at e; cases e
       | some blk =>
        cases blk <;> simp only [hl] at e <;> try cases e
        rename_i es
        cases hlm:lkM es n with
        | some v=>simp only [hlm] at e; cases e
        | none =>
         simp only [hlm,one_eq,oneM_eq,Option.some.injEq] at e
         rcases g.heap b _ hl with ⟨h0,_⟩ | ⟨n',hn',h2,h3,ms,c,h4,h5⟩
         ·cases h0
         rw [hnb] at hn'
         cases hn'
         have hfn:=lkM_none hlm h5 0
         have hrun:(Instr.mapUpdate t (a.eval m) (a.eval k) (a.eval x)).run X.P w=.ok () { w with heap:=w.heap.setIfInBounds nb (.map (ms.push { key:=.int .i64 n,val:=a.eval x,born:=c }) (c+1)) }:=by
          simp [Instr.mapUpdate,und_run hu,hmval,hkv,getObj_run h4,checkKey_int huk,Instr.findKey,und_run huk,hfn,setObj_run _ h4]
         refine wp_skip' (w':=_) (by simpa [execOp] using u_run hrun) ?_
         refine done e.symm (Env.le_refl E) (v:=.u) trivial (g.setO hl rfl hnb (fun j hj=>?_) (by simp) rfl rfl rfl ⟨ms.push { key:=.int .i64 n,val:=a.eval x,born:=c },c+1,?_,?_⟩)
         ·simp [Array.getElem?_setIfInBounds,Ne.symm hj]
         ·simp [Array.getElem?_setIfInBounds,h2]
         ·simpa using RM_push h5 (f.eval x)
     ·cases e
    case lookup t m k ok =>
     simp only [mapOp,cond_eq_ite] at e
     split at e
     ·rename_i hik
      obtain ⟨kt,et,hu,huk⟩:=intKey_ok hT hik
      have hm:=f.eval m
      cases hmv:rho tm m <;> rw [hmv] at hm <;> simp only [hmv] at e <;> try cases e
      rename_i b
      cases hkn:keyN (rho tm k) with
      | none=>simp only [hkn] at e; cases e
      | some n =>
       have hkv:=keyN_ok hkn (f.eval k)
       simp only [hkn] at e
       simp only [R] at hm
       obtain ⟨nb,hnb,hmval⟩:=hm
       cases hl:lk st.heap b with
       | none=>simp only [hl] at e; cases e
       | some blk =>
        cases blk <;> simp only [hl] at e <;> try cases e
        rename_i es
        cases hlm:lkM es n with
        | none=>simp only [hlm] at e; cases e
        | some v =>
         simp only [hlm,one0_eq,Option.some.injEq] at e
         rcases g.heap b _ hl with ⟨h0,_⟩ | ⟨n',hn',h2,h3,ms,c,h4,h5⟩
         ·cases h0
         rw [hnb] at hn'
         cases hn'
         obtain ⟨j,x,hfn,hx⟩:=lkM_some hlm h5 0
         have hrun:(Instr.lookup t (a.eval m) (a.eval k) ok).run X.P w=.ok (if ok then .tuple #[x,.bool true] else x) w:=by
          simp [Instr.lookup,und_run hu,hmval,hkv,getObj_run h4,checkKey_int huk,Instr.findKey,und_run huk,hfn]
         refine wp_value (x:=if ok then .tuple #[x,.bool true] else x) (w':=w) (by simpa [execOp] using v_run2 hrun) ?_
         refine done e.symm (Env.le_refl E) ?_ g
         cases ok with
         | true=>simp only [if_true,R]; exact ⟨_,rfl,_,_,rfl,hx,_,_,rfl,by simp only [R],rfl⟩
         | false=>exact hx
     ·cases e
    case alloc t =>
     cases hty:X.T.ty.get t with
     | none=>simp only [hty] at e; cases e
     | some y =>
      simp only [hty,one_eq,oneM_eq,Option.some.injEq] at e
      obtain ⟨d2,i2,hd2,hi2,hs2,hb2,hu2,ha2,hl2,z,hz,hzr⟩:=hT.ty t y hty
      have hle:=Env.le_upd (x:=EV.blk w.heap.size) g.nid_none
      refine wp_value (x:=.pointer (some ⟨w.heap.size,0,none⟩)) (w':=w.alloc (.cells z.cells t)) (by simpa [execOp] using v_run2 (alloc_run hi2 hz w)) ?_
      exact done e.symm hle (by simp only [R]; exact ⟨_,Env.upd_self _ _ _,rfl⟩) (g.newB (hzr E))
    case box t x =>
     cases hty:X.T.ty.get t with
     | none=>simp only [hty] at e; cases e
     | some y =>
      simp only [hty,one_eq,oneM_eq,cond_eq_ite] at e
      split at e
      ·rename_i hc
       simp only [Option.some.injEq] at e
       have hle:=Env.le_upd (x:=EV.blk w.heap.size) g.nid_none
       refine wp_value (x:=.pointer (some ⟨w.heap.size,0,none⟩)) (w':=w.alloc (.cells (a.eval x).cells t)) (by simpa [execOp] using v_run2 (box_run (P:=X.P) (v:=a.eval x) w)) ?_
       exact done e.symm hle (by simp only [R]; exact ⟨_,Env.upd_self _ _ _,rfl⟩) (g.newB (RL_cells (f.eval x) hc))
      ·cases e
    case buildSlice t len ps =>
     cases hty:X.T.ty.get t with
     | none=>simp only [hty] at e; cases e
     | some ty =>
      simp only [hty] at e
      cases hund:ty.und <;> simp only [hund] at e <;> try cases e
      rename_i el
      cases hel:X.T.ty.get el with
      | none=>simp only [hel] at e; cases e
      | some y =>
       simp only [hel,cond_eq_ite,Bool.and_eq_true,Nat.ble_eq] at e
       split at e
       ·rename_i hc
        cases hf:fillS (placeS X.T ty) (repL len y.zero) (rhoP tm ps.toList) with
        | none=>simp only [hf] at e; cases e
        | some cs =>
         simp only [hf,one_eq,oneM_eq] at e
         split at e
         ·simp only [Option.some.injEq] at e
          have hle:=Env.le_upd (x:=EV.blk w.heap.size) g.nid_none
          obtain ⟨w',hrun,hg⟩:=buildSlice_ok (len:=len) (pv:=ps.map fun p=>(p.1,a.eval p.2)) hT g hty hund hel (by simpa using evalP f ps.toList) hc.1 (Nat.le_of_ble_eq_true hc.2) hf
          refine wp_value (x:=.slice (some ⟨w.heap.size,0,none⟩) len len) (w':=w') (by simpa [execOp] using v_run2 hrun) ?_
          exact done e.symm hle (by simp only [R]; exact ⟨_,Env.upd_self _ _ _,rfl⟩) hg
         ·cases e
       ·cases e
    case makeSlice t ln cp =>
     cases hty:X.T.ty.get t with
     | none=>simp only [hty] at e; cases e
     | some ty =>
      cases h1:cstN st (rho tm ln) with
      | none=>simp only [hty,h1] at e; cases e
      | some n =>
       cases h2:cstN st (rho tm cp) with
       | none=>simp only [hty,h1,h2] at e; cases e
       | some m =>
        simp only [hty,h1,h2] at e
        cases hund:ty.und <;> simp only [hund] at e <;> try cases e
        rename_i el
        cases hel:X.T.ty.get el with
        | none=>simp only [hel] at e; cases e
        | some y =>
         simp only [hel,cond_eq_ite,Bool.and_eq_true,Nat.ble_eq,one_eq,oneM_eq] at e
         split at e
         ·rename_i hc
          simp only [Option.some.injEq] at e
          have hnm:=nbeq hc.1
          subst hnm
          obtain ⟨k1,hk1⟩:=cstN_ok g h1 (f.eval ln)
          obtain ⟨k2,hk2⟩:=cstN_ok g h2 (f.eval cp)
          have hle:=Env.le_upd (x:=EV.blk w.heap.size) g.nid_none
          obtain ⟨w',hrun,hg⟩:=makeSlice_ok (k:=k1) (j:=k2) hT g hty hund hel hc.2.1 hc.2.2.1 (Nat.le_of_ble_eq_true hc.2.2.2.1)
          refine wp_value (x:=.slice (some ⟨w.heap.size,0,none⟩) n n) (w':=w') (by simpa [execOp,hk1,hk2] using v_run2 hrun) ?_
          exact done e.symm hle (by simp only [R]; exact ⟨_,Env.upd_self _ _ _,rfl⟩) hg
         ·cases e
    case store t x v =>
     cases hs:storeS X.T st t (rho tm x) (rho tm v) with
     | none=>simp only [hs] at e; cases e
     | some st' =>
      simp only [hs,one_eq,oneM_eq,Option.some.injEq] at e
      obtain ⟨w',hrun,hg⟩:=storeS_ok hT g hs (f.eval x) (f.eval v)
      refine wp_skip' (w':=w') (by simpa [execOp] using u_run hrun) ?_
      exact done e.symm (Env.le_refl E) (v:=.u) trivial hg
    case call c =>
     obtain ⟨callee,args,ats⟩:=c
     cases callee <;> simp only at e <;> try cases e
     ·rename_i fo
      have hf:=f.eval fo
      cases hr:rho tm fo <;> rw [hr] at hf <;> simp only [hr] at e <;> try cases e
      rename_i fn first cap
      cases fn <;> simp only at e <;> try cases e
      rename_i gg
      simp only [fL_eq] at e
      cases hcl:call gg (first++rhoL tm args.toList++cap) st with
      | none=>simp only [hcl] at e; cases e
      | some lo =>
       simp only [hcl,Option.some.injEq] at e
       subst e
       obtain ⟨⟨fn,hfn⟩,hcalls⟩:=hC gg _ st lo hcl
       simp only [R] at hf
       obtain ⟨fs,cs,hf,hfs,hcs⟩:=hf
       have hrun:=callv_run hT hfn a.eval fo args ats type fs cs hf w
       refine wp_enter (by simpa [execOp] using hrun) (hcalls E w _ g (by
        have h9:=RL_append (RL_append hfs (f.evalL args.toList)) hcs
        simpa using h9)) ?_
       rintro en w'' ⟨o,ho,E',x,hle,rfl,hx,hg⟩
       exact ⟨x,rfl,hK _ (outs_mem ho) E' _ w'' hle hg ((f.mono hle).put dst hx)⟩
     ·rename_i r nm
      have hf:=f.eval r
      have fin:∀ {t gg:Nat} {u x:Value} {sx:SV} {lo:Out},a.eval r=.iface t u→(method (X.P.types.size+Made.depth) t u nm).run X.P w=.ok (gg,x) w→R E sx x→call gg (sx::rhoL tm args.toList) st=some lo→outs dst tm lo=l →
        Oper.wp X.P ⟨dst,.call ⟨.invoke r nm,args,ats⟩,type,pos,after,guard⟩ a w K Q:=by
       intro t gg u x sx lo hr hm hx hcl hl
       subst hl
       obtain ⟨⟨fn,hfn⟩,hcalls⟩:=hC gg _ st lo hcl
       have hrun:=inv_run hT hm hfn a.eval args ats type hr
       refine wp_enter (by simpa [execOp] using hrun) (hcalls E w _ g (by
        have h9:=f.evalL args.toList
        simp only [Array.toList_append,Array.toList_map,List.cons_append,List.nil_append,RL]
        exact ⟨_,_,rfl,hx,h9⟩)) ?_
       rintro en w'' ⟨o,ho,E',x,hle,rfl,hx,hg⟩
       exact ⟨x,rfl,hK _ (outs_mem ho) E' _ w'' hle hg ((f.mono hle).put dst hx)⟩
      cases hr:rho tm r <;> rw [hr] at hf <;> simp only [hr] at e <;> try cases e
      rename_i t v
      simp only [R] at hf
      obtain ⟨u,hu,hv⟩:=hf
      cases hi:X.T.inv t nm with
      | none=>simp only [hi] at e; cases e
      | some q =>
       obtain ⟨gg,le⟩:=q
       cases le with
       | none =>
        simp only [hi,fL_eq] at e
        cases hcl:call gg (v::rhoL tm args.toList) st with
        | none=>simp only [hcl] at e; cases e
        | some lo =>
         simp only [hcl,Option.some.injEq] at e
         exact fin hu (hT.inv t nm gg hi u w) hv hcl e
       | some et =>
        simp only [hi] at e
        cases hld:loadS X.T st et v with
        | none=>simp only [hld] at e; cases e
        | some x =>
         simp only [hld,fL_eq] at e
         cases hcl:call gg (x::rhoL tm args.toList) st with
         | none=>simp only [hcl] at e; cases e
         | some lo =>
          simp only [hcl,Option.some.injEq] at e
          obtain ⟨z,hz,hrun⟩:=loadS_ok hT g hld hv
          exact fin hu (hT.invl t nm gg et hi u z w (hrun w (Ext0.refl w))) hz hcl e
     ·rename_i b
      cases hb:builtS X.T st b ats.toList (rhoL tm args.toList) with
      | none=>simp only [hb] at e; cases e
      | some q =>
       obtain ⟨v,st'⟩:=q
       simp only [hb,one_eq,oneM_eq,Option.some.injEq] at e
       have hrl:=f.evalL args.toList
       unfold builtS at hb
       split at hb
       ·rename_i t t' s x hats hargs
        rw [hargs] at hrl
        obtain ⟨u1,u2,hm,hs,hx⟩:=RL_two hrl
        cases htt:Nat.beq t t' with
        | false=>simp only [htt,cond_false] at hb; cases hb
        | true =>
         have:=nbeq htt
         subst this
         simp only [htt,cond_true] at hb
         have happ:∃ y w' E',(Builtin.append_ #[t,t] type #[u1,u2]).run X.P w=.ok y w'∧E.le E'∧R E' v y∧G X own0 w0 E' st' w':=by
          split at hb
          ·rename_i r hr
           cases hb
           obtain ⟨y,h1,h2⟩:=append0_ok (ty0:=type) hT g hr hs hx
           exact ⟨y,w,E,h1,Env.le_refl E,h2,g⟩
          split at hb
          ·rename_i r hr
           cases hb
           exact appendO_ok (ty0:=type) hT hR.app g hr hs hx
          ·exact appendS_ok (ty0:=type) hT g hb hs hx
         obtain ⟨y,w',E',hrun,hle,hR,hG⟩:=happ
         have hA:args.map a.eval=#[u1,u2]:=by apply Array.ext'; simpa using hm
         have hats':ats=#[t,t]:=by apply Array.ext'; exact hats
         refine wp_value (x:=y) (w':=w') ?_ (done e.symm hle hR hG)
         simp [execOp,resolve,invoke,builtin,hA,hats',hrun]
       ·rename_i t rest d x hats hargs
        rw [hargs] at hrl
        obtain ⟨u1,u2,hm,hs,hx⟩:=RL_two hrl
        obtain ⟨y,w',hrun,hR,hG⟩:=copyS_ok (ty0:=type) (ats:=rest) hT g hb hs hx
        have hA:args.map a.eval=#[u1,u2]:=by apply Array.ext'; simpa using hm
        have hats':ats=(t::rest).toArray:=by apply Array.ext'; simpa using hats
        refine wp_value (x:=y) (w':=w') ?_ (done e.symm (Env.le_refl E) hR hG)
        simp only [execOp,resolve,invoke,builtin,hA,hats',Sem.run_bind,Sem.run_pure,Result.andThen_ok,hrun]
       ·cases hb
end SE
end
end Go.Proofs.YtdgejnakakjgfaaGreatDoor
