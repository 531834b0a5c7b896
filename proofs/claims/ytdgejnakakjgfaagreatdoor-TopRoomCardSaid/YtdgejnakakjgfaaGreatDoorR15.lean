/- Sealed bodies: runs. Equality of replies. Replies: runs. Sealed bodies opened, replies put, frames put: contracts. Keys, remainders: of policies that are made ones that may be. -/
import Derived.Test.YtdgejnakakjgfaaGreatDoorR12
import Derived.Test.YtdgejnakakjgfaaGreatDoorR13
import Derived.Test.YtdgejnakakjgfaaGreatDoorR14
import Derived.Laws.StructEq
import Derived.KernelRfl
set_option linter.unusedVariables false
set_option linter.unusedSimpArgs false
set_option maxRecDepth 100000
namespace Go.Proofs.YtdgejnakakjgfaaGreatDoor
section
namespace SE
open Go.RowKit
set_option maxHeartbeats 0
theorem open_e1:allN openR 28 2=true:=by decide +kernel
theorem open_e2:allN openR 30 2=true:=by decide +kernel
theorem open_e3:openR 32=true:=by decide +kernel
end SE
end
section
namespace SE
open Go.RowKit
theorem forIn_ex {P:Program} {α β:Type} (f:α→β→Sem (ForInStep β)) (b0:β):∀ l:List α,(∀ i∈l,(∃ x,∀ w,(f i b0).run P w=.ok (.done x) w)∨∀ w,(f i b0).run P w=.ok (.yield b0) w) →
  ∃ r,∀ w,(forIn l b0 f).run P w=.ok r w
 | [],_=>⟨b0,fun w=>by simp⟩
 | i::l,h=>by
  rcases h i List.mem_cons_self with ⟨x,hx⟩ | hy
  ·exact ⟨x,fun w=>by simp [List.forIn_cons,Sem.run_bind,hx w]⟩
  ·obtain ⟨r,hr⟩:=forIn_ex f b0 l fun j hj=>h j (List.mem_cons_of_mem _ hj)
   exact ⟨r,fun w=>by simp [List.forIn_cons,Sem.run_bind,hy w,hr w]⟩
theorem arr_ex {P:Program} {t n e:Nat} (d:Nat) (hu:P.underlying t=some (.array n e)) {k:IntKind} (he:P.underlying e=some (.int k)) (hz:∀ w,(sizeOf e).run P w=.ok 1 w) {xs ys:Array Value}
  (hx:∀ i,i<n→∃ z,xs[i]?=some (.int k z)) (hy:∀ i,i<n→∃ z,ys[i]?=some (.int k z)):∃ b,∀ w,(Op.equalIn (d+2) t (.agg xs) (.agg ys)).run P w=.ok b w:=by
 rw [Op.equalIn]
 simp only [Sem.run_bind,run_underlying hu,Result.andThen_ok,hz,Std.Legacy.Range.forIn_eq_forIn_range',Std.Legacy.Range.size,Nat.sub_zero,Nat.add_sub_cancel,Nat.div_one]
 have key:=forIn_ex (P:=P) (fun i (r:Option Bool×Unit)=>(do
   let __do_lift←part e xs (i*1)
   let __do_lift_1←part e ys (i*1)
   let __do_lift←Op.equalIn (d+1) e __do_lift __do_lift_1
   if (!__do_lift)=true then pure (ForInStep.done (some false,())) else pure (ForInStep.yield (none,())):Sem (ForInStep (Option Bool×Unit)))) (none,()) (List.range' 0 n) (fun i hi=>by
  have hin:i<n:=by have:=List.mem_range'.1 hi; omega
  obtain ⟨x,ex⟩:=hx i hin
  obtain ⟨y,ey⟩:=hy i hin
  have px:∀ w,(part e xs i).run P w=.ok (.int k x) w:=fun w=>by simp [part,isAgg,run_underlying he,ex]
  have py:∀ w,(part e ys i).run P w=.ok (.int k y) w:=fun w=>by simp [part,isAgg,run_underlying he,ey]
  have eq:∀ w,(Op.equalIn (d+1) e (.int k x) (.int k y)).run P w=.ok (x == y) w:=fun w=>run_equalIn_int w d e k k x y he
  cases hb:(x == y) with
  | true=>exact .inr fun w=>by simp [Sem.run_bind,px,py,eq,hb,Result.andThen_ok]
  | false=>exact .inl ⟨(some false,()),fun w=>by simp [Sem.run_bind,px,py,eq,hb,Result.andThen_ok]⟩)
 obtain ⟨r,hr⟩:=key
 refine ⟨match r.fst with | none=>true | some b=>b,fun w=>?_⟩
 have hr:=hr w
 rw [hr]
 simp only [Result.andThen_ok]
 cases r.fst <;> simp
def FieldEx (P:Program) (d:Nat) (xs ys:Array Value) (f:Field):Prop :=
 ∃ a b,(∀ w,(part f.type xs f.offset).run P w=.ok a w)∧(∀ w,(part f.type ys f.offset).run P w=.ok b w)∧∃ r,∀ w,(Op.equalIn d f.type a b).run P w=.ok r w
theorem fields_ex {P:Program} {d:Nat} {xs ys:Array Value}:∀ fs:List Field,(∀ f∈fs,FieldEx P d xs ys f)→∃ r,∀ w,(Op.eqFields d xs ys fs).run P w=.ok r w
 | [],_=>⟨true,fun w=>by simp [Op.eqFields]⟩
 | f::fs,h=>by
  obtain ⟨a,b,ha,hb,r,hr⟩:=h f List.mem_cons_self
  obtain ⟨q,hq⟩:=fields_ex fs fun g hg=>h g (List.mem_cons_of_mem _ hg)
  by_cases hn:f.name ≠ "_"
  ·cases r with
   | true=>exact ⟨q,fun w=>by simp [Op.eqFields,hn,Sem.run_bind,ha,hb,hr,hq,Result.andThen_ok]⟩
   | false=>exact ⟨false,fun w=>by simp [Op.eqFields,hn,Sem.run_bind,ha,hb,hr,Result.andThen_ok]⟩
  ·exact ⟨q,fun w=>by simp only [Op.eqFields,hn,if_false]; exact hq w⟩
theorem shape_vals {E:Env}:∀ {z l:List SV} {vs:List Value},shapeS z l=true→RL E l vs→∀ (i:Nat) (k:IntKind) (x:SI),z[i]?=some (.int k x)→∃ n:Int,vs[i]?=some (.int k n)
 | [],l,vs,_,_,i,k,x,hz=>by simp at hz
 | a::z,[],vs,h,_,i,k,x,hz=>by cases a <;> simp [shapeS] at h
 | a::z,b::l,[],h,hr,i,k,x,hz=>by simp [RL] at hr
 | a::z,b::l,v::vs,h,hr,i,k,x,hz=>by
  obtain ⟨h1,h2⟩:=RL_cons.1 hr
  cases a <;> (try (simp [shapeS] at h; done))
  case int ka xa =>
   cases b <;> (try (simp [shapeS] at h; done))
   rename_i kb xb
   simp only [shapeS,Bool.and_eq_true] at h
   have hk:=eqK_iff h.1
   subst hk
   cases i with
   | zero =>
    simp only [List.getElem?_cons_zero,Option.some.injEq,SV.int.injEq] at hz
    obtain ⟨rfl,rfl⟩:=hz
    simp only [R] at h1
    obtain ⟨n,_,rfl⟩:=h1
    exact ⟨n,rfl⟩
   | succ i=>exact shape_vals h.2 h2 i k x (by simpa using hz)
  case ff =>
   simp only [shapeS,Bool.and_eq_true] at h
   cases i with
   | zero=>simp at hz
   | succ i=>exact shape_vals h.2 h2 i k x (by simpa using hz)
def replyZ:List SV:=rep 6 (.int .i64 (.r 0 0))++rep 8 (.int .u8 (.r 0 0))
theorem reply_und:Tryz.prog.underlying 200=some (.struct (Tryz.prog.fieldsOf 200)):=by kernel_rfl
theorem reply_held:Tryz.prog.stoodInHeld 200=false:=by kernel_rfl
theorem reply_guard:Tryz.prog.eqGuardType Tryz.prog.depth 200=false:=by kernel_rfl
theorem reply_fields:(Tryz.prog.fieldsOf 200).toList.map (fun f=>(f.type,f.offset))=[(3,0),(3,1),(3,2),(3,3),(3,4),(58,5),(102,6)]:=by kernel_rfl
theorem und102:Tryz.prog.underlying 102=some (.array 8 5):=by kernel_rfl
theorem und58:Tryz.prog.underlying 58=some (.int .i64):=by kernel_rfl
theorem size5 (w:World):(sizeOf 5).run Tryz.prog w=.ok 1 w:=by
 have h:(Tryz.prog.info? 5).map (·.size)=some 1:=by kernel_rfl
 cases hq:Tryz.prog.info? 5 with
 | none=>simp [hq] at h
 | some i=>simp [hq] at h; simp [sizeOf,typeInfo,hq,h]
theorem size102 (w:World):(sizeOf 102).run Tryz.prog w=.ok 8 w:=by
 have h:(Tryz.prog.info? 102).map (·.size)=some 8:=by kernel_rfl
 cases hq:Tryz.prog.info? 102 with
 | none=>simp [hq] at h
 | some i=>simp [hq] at h; simp [sizeOf,typeInfo,hq,h]
theorem fint_ex {d t off:Nat} {xs ys:Array Value} (hu:Tryz.prog.underlying t=some (.int .i64)) (hx:∃ z,xs[off]?=some (.int .i64 z)) (hy:∃ z,ys[off]?=some (.int .i64 z)) {f:Field} (hf:(f.type,f.offset)=(t,off)) :
  FieldEx Tryz.prog (d+1) xs ys f:=by
 simp only [Prod.mk.injEq] at hf
 obtain ⟨h1,h2⟩:=hf
 obtain ⟨x,hx⟩:=hx
 obtain ⟨y,hy⟩:=hy
 unfold FieldEx
 rw [h1,h2]
 exact ⟨_,_,fun w=>by simp [part,isAgg,run_underlying hu,hx],fun w=>by simp [part,isAgg,run_underlying hu,hy],_,fun w=>run_equalIn_int w d t .i64 .i64 x y hu⟩
theorem eq_reply (xs ys:Array Value) (sx:xs.size=14) (sy:ys.size=14) (hx:∀ (i:Nat) (k:IntKind) (x:SI),replyZ[i]?=some (SV.int k x)→∃ n:Int,xs[i]?=some (Value.int k n)) (hy:∀ (i:Nat) (k:IntKind) (x:SI),replyZ[i]?=some (SV.int k x)→∃ n:Int,ys[i]?=some (Value.int k n)) :
  ∃ b,∀ w,(Op.equalIn 10000 200 (.agg xs) (.agg ys)).run Tryz.prog w=.ok b w:=by
 have hfs:=reply_fields
 obtain ⟨r,hr⟩:∃ r,∀ w,(Op.eqFields 9999 xs ys (Tryz.prog.fieldsOf 200).toList).run Tryz.prog w=.ok r w:=by
  refine fields_ex _ fun f hf=>?_
  have hm:(f.type,f.offset)∈(Tryz.prog.fieldsOf 200).toList.map (fun f=>(f.type,f.offset)):=List.mem_map_of_mem hf
  rw [hfs] at hm
  simp only [List.mem_cons,List.not_mem_nil,or_false] at hm
  rcases hm with e | e | e | e | e | e | e
  ·exact fint_ex Tryz.underlying3 (hx 0 .i64 _ rfl) (hy 0 .i64 _ rfl) e
  ·exact fint_ex Tryz.underlying3 (hx 1 .i64 _ rfl) (hy 1 .i64 _ rfl) e
  ·exact fint_ex Tryz.underlying3 (hx 2 .i64 _ rfl) (hy 2 .i64 _ rfl) e
  ·exact fint_ex Tryz.underlying3 (hx 3 .i64 _ rfl) (hy 3 .i64 _ rfl) e
  ·exact fint_ex Tryz.underlying3 (hx 4 .i64 _ rfl) (hy 4 .i64 _ rfl) e
  ·exact fint_ex und58 (hx 5 .i64 _ rfl) (hy 5 .i64 _ rfl) e
  ·simp only [Prod.mk.injEq] at e
   unfold FieldEx
   rw [e.1,e.2]
   refine ⟨.agg (xs.extract 6 14),.agg (ys.extract 6 14),fun w=>?_,fun w=>?_,?_⟩
   ·simp [part,isAgg,run_underlying und102,size102,sx,Result.andThen_ok]
   ·simp [part,isAgg,run_underlying und102,size102,sy,Result.andThen_ok]
   ·refine arr_ex 9997 und102 Tryz.underlying5 size5 (fun i hi=>?_) (fun i hi=>?_)
    ·obtain ⟨n,hn⟩:=hx (6+i) .u8 (.r 0 0) (by
      have:i=0∨i=1∨i=2∨i=3∨i=4∨i=5∨i=6∨i=7:=by omega
      rcases this with rfl | rfl | rfl | rfl | rfl | rfl | rfl | rfl <;> rfl)
     exact ⟨n,by rw [Array.getElem?_extract]; simp [sx]; exact ⟨by omega,hn⟩⟩
    ·obtain ⟨n,hn⟩:=hy (6+i) .u8 (.r 0 0) (by
      have:i=0∨i=1∨i=2∨i=3∨i=4∨i=5∨i=6∨i=7:=by omega
      rcases this with rfl | rfl | rfl | rfl | rfl | rfl | rfl | rfl <;> rfl)
     exact ⟨n,by rw [Array.getElem?_extract]; simp [sy]; exact ⟨by omega,hn⟩⟩
 exact ⟨r,fun w=>(run_equalIn_struct w 9999 200 xs ys reply_und reply_held).trans (hr w)⟩
theorem reply_zero:(tyT.get 200).map TY.zero=some replyZ:=by kernel_rfl
noncomputable def Xp:Px:=⟨Tryz.prog,{ TW with eqt:=fun t=>Nat.beq t 200 },fun _ _=>False,fun _ _ _=>False⟩
theorem size_of_shape {E:Env}:∀ {z l:List SV} {vs:List Value},shapeS z l=true→RL E l vs→vs.length=z.length
 | [],[],vs,_,hr=>by rw [RL_nil.1 hr]; rfl
 | [],_::_,vs,h,_=>by simp [shapeS] at h
 | a::z,[],vs,h,_=>by cases a <;> simp [shapeS] at h
 | a::z,b::l,[],h,hr=>by simp [RL] at hr
 | a::z,b::l,v::vs,h,hr=>by
  obtain ⟨h1,h2⟩:=RL_cons.1 hr
  have:shapeS z l=true:=by
   cases a <;> (try (simp [shapeS] at h; done))
   case int ka xa =>
    cases b <;> (try (simp [shapeS] at h; done))
    simp only [shapeS,Bool.and_eq_true] at h
    exact h.2
   case ff =>
    simp only [shapeS,Bool.and_eq_true] at h
    exact h.2
  simp [size_of_shape this h2]
theorem tabp:TabOk Xp:=tab_ok rfl rfl rfl (fun t nm r h=>by simp [Xp,TW,TC] at h) (fun nm args h=>by simp [Xp,TW] at h) (fun gg cs h E E' vs hr=>clL_ok (glT_cl gg cs h) hr) (fun t h y hy E l m hl hm xs ys hxs hys op ho x y'=>by
 have ht:t=200:=nbeq h
 subst ht
 have hz:y.zero=replyZ:=by
  have h:=reply_zero
  have hy:tyT.get 200=some y:=hy
  rw [hy] at h
  simpa using h
 rw [hz] at hl hm
 obtain ⟨b,hb⟩:=eq_reply xs ys (by have:=size_of_shape hl hxs; simpa [replyZ,rep] using this) (by have:=size_of_shape hm hys; simpa [replyZ,rep] using this)
  (fun i k x h=>by have:=shape_vals hl hxs i k x h; simpa using this) (fun i k x h=>by have:=shape_vals hm hys i k x h; simpa using this)
 have hP:Xp.P=Tryz.prog:=rfl
 rw [hP]
 rcases ho with rfl | rfl
 ·exact ⟨b,fun w=>by simp [Sem.run_bind,run_eqGuard_agg w .eql 200 x y' xs ys reply_guard,run_eql_struct,hb,Result.andThen]⟩
 ·exact ⟨!b,fun w=>by simp [Sem.run_bind,run_eqGuard_agg w .neq 200 x y' xs ys reply_guard,run_neq_struct,hb,Result.andThen]⟩)
theorem rkp:RkOk Xp where
 app:=fun nm args new st args' h=>by simp [Xp,TW] at h
 fn:=fun g h=>by simp [Xp,TW,TC] at h
 ok:=fun g args st v hg h=>by simp [Xp,TW,TC] at hg
theorem tblp:Tbl (Xw fun _ _ _=>none) Xp:=⟨rfl,rfl,rfl,rfl,rfl⟩
theorem pkp:PkOk Xp where
 fn:=fun g h=>(pkw (k:=fun _ _ _=>none)).fn g h
 ok:=fun g args st v hg h own0 w0 E w g' vals hr=>(pkw (k:=fun _ _ _=>none)).ok g args st v hg h own0 w0 E w (g'.tbl tblp.symm) vals hr
theorem kp_ok:∀ own0 w0,KOk Xp own0 w0:=fun own0 w0 g args st l h=>by simp [Xp,TW] at h
end SE
end
section
namespace SE
open Go.RowKit
set_option maxHeartbeats 0
def replyS (k:SV):SV:=.agg ([k]++rep 5 I64++rep 8 byteCell)
def putO (o:SV×SE.St):Bool :=
 match o.1 with
 | .tup [v,.int .i64 (.r a b)]=>decide (0≤a)&&(decide (b≤3)&&(lenR o.2 v (Int.ofNat 0) (Int.ofNat 32)&&isFresh o.2 v))
 | _=>false
noncomputable def putR (a b:Int):Bool:=runO putO (run Xp.T 60 151 [replyS (U a b)] emptySt)
theorem put_low:putR (-9223372036854775808) 128=true:=by decide +kernel
theorem put_129:putR 129 129=true:=by decide +kernel
theorem put_130:putR 130 130=true:=by decide +kernel
theorem put_131:putR 131 131=true:=by decide +kernel
theorem put_132:putR 132 132=true:=by decide +kernel
theorem put_133:putR 133 133=true:=by decide +kernel
theorem put_134:putR 134 134=true:=by decide +kernel
theorem put_135:putR 135 135=true:=by decide +kernel
theorem put_136:putR 136 136=true:=by decide +kernel
theorem put_high:putR 137 9223372036854775807=true:=by decide +kernel
end SE
end
section
namespace SE
open Go.RowKit
set_option maxHeartbeats 0
variable {X:Px} {own0:Nat→Prop} {w0 w w':World} {E:Env} {st:SE.St}
theorem openR_ok {n:Nat} (h2:n≤32):openR n=true:=by
 by_cases a:n<12
 ·exact allN_ok open_a n (by omega) (by omega)
 ·by_cases b:n<18
  ·exact allN_ok open_b n (by omega) (by omega)
  ·by_cases c:n<21
   ·exact allN_ok open_c1 n (by omega) (by omega)
   ·by_cases c2:n<24
    ·exact allN_ok open_c2 n (by omega) (by omega)
    ·by_cases d:n<28
     ·exact allN_ok open_d n (by omega) (by omega)
     ·by_cases e:n<30
      ·exact allN_ok open_e1 n (by omega) (by omega)
      ·by_cases e':n<32
       ·exact allN_ok open_e2 n (by omega) (by omega)
       ·have:n=32:=by omega
        subst this
        exact open_e3
theorem tup2 {E:Env} {a b:SV} {v:Value} (h:R E (.tup [a,b]) v):∃ x y,v=.tuple #[x,y]∧R E a x∧R E b y:=by
 simp only [R] at h
 obtain ⟨cs,rfl,hl⟩:=h
 obtain ⟨x,y,e,hx,hy⟩:=RL2 hl
 exact ⟨x,y,by rw [arr_of e],hx,hy⟩
theorem intc {E:Env} {a b n:Int} {v:Value} (h:R E (.int .i64 (.r a b)) v) (ha:a=n) (hb:b=n):v=i64 n:=by
 simp only [R,SIok] at h
 obtain ⟨z,hz,rfl⟩:=h
 have:z=n:=by omega
 rw [this]; rfl
theorem open_any (hw:GlW w) {k s:Value} (hk:R noE (bytesS 32) k) (hs:R noE I64 s) {base:Option Addr} {ln cap:Nat} (h2:ln≤32) (hc:ln≤cap) (hb:ByteRow w base ln) (hsz:∀ x,base=some x→x.block<w.heap.size) :
  Calls Tryz.prog 108 #[k,s,.slice base ln cap] w fun e w'=>Below w.heap.size w w'∧(e=.returned (.tuple #[.slice none 0 0,i64 14])∨∃ v,e=.returned (.tuple #[v,i64 0])∧NewRow w w' 0 24 v):=by
 obtain ⟨E,r1,g⟩:=g_one (X:=XK kN2) hw rfl (a:=ln) (b:=ln) (Nat.le_refl _) (Nat.le_refl _) hc hb hsz
 have e:=openR_ok h2
 unfold openR at e
 cases hrun:run (XK kN2).T 60 108 [bytesS 32,I64,.sl 0] (oneSt ln ln) with
 | none=>rw [hrun] at e; cases e
 | some out =>
  rw [hrun] at e
  refine (run_ok (X:=XK kN2) tabw pkw rkw (k2_ok _ w) 60 hrun g (RL_cons.2 ⟨hk.mono (fun _ _ h=>by cases h),RL_cons.2 ⟨hs.mono (fun _ _ h=>by cases h),RL_cons.2 ⟨r1,by simp [RL]⟩⟩⟩)).mono fun e' w' he=>?_
  obtain ⟨o,ho,E',x,h1,rfl,h3,h4⟩:=he
  refine ⟨below_of h4,?_⟩
  have hO:=allO_ok e o ho
  simp only [openO',openO,Bool.or_eq_true] at hO
  have good:∀ (v:SV) (a b:Int),o.1=.tup [v,.int .i64 (.r a b)]→a=0→b=0→lenR o.2 v (Int.ofNat 0) (Int.ofNat 24)=true→isFresh o.2 v=true→∃ v,(Ending.returned x)=.returned (.tuple #[v,i64 0])∧NewRow w w' 0 24 v:=by
   intro v a b ev ha hb hl hf
   rw [ev] at h3
   obtain ⟨p,q,rfl,hp,hq⟩:=tup2 h3
   rw [intc hq ha hb]
   exact ⟨p,rfl,new_of h4 hl hf hp⟩
  rcases hO with hO | hO
  ·split at hO
   ·rename_i a b ev
    simp only [Bool.and_eq_true,decide_eq_true_eq] at hO
    rw [ev] at h3
    obtain ⟨p,q,rfl,hp,hq⟩:=tup2 h3
    simp only [R] at hp
    rw [intc hq hO.1 hO.2,hp]
    exact .inl rfl
   ·rename_i v a b _ ev
    simp only [Bool.and_eq_true,decide_eq_true_eq] at hO
    exact .inr (good v a b ev hO.1 hO.2.1 hO.2.2.1 hO.2.2.2)
   ·cases hO
  ·split at hO
   ·rename_i a b ev
    simp only [Bool.and_eq_true,decide_eq_true_eq] at hO
    exact .inr (good .nils a b ev hO.1 hO.2 (by simp [lenR,byteIn,rngI]) rfl)
   ·cases hO
def newB' (st:SE.St) (a b:Int):SE.St:={ st with sls:=(st.nid,.bytes (.r a b))::st.sls,nid:=st.nid+1 }
def kOpen' (args:List SV) (st:SE.St):Option Out :=
 match args with
 | [k,s,b]=>bif instA st ⟨0,[]⟩ [bytesS 32,I64] [k,s]&&lenR st b 0 32 then some [(.tup [.nils,N 14],st),(.tup [.sl st.nid,N 0],newB' st 0 24)] else none
 | _=>none
theorem Rtup2 {E:Env} {a b:SV} {x y:Value} (hx:R E a x) (hy:R E b y):R E (.tup [a,b]) (.tuple #[x,y]):=by
 simp only [R]
 exact ⟨_,rfl,RL_cons.2 ⟨hx,RL_cons.2 ⟨hy,by simp [RL]⟩⟩⟩
theorem k_open (hP:X.P=Tryz.prog) (hX:X.T.gl=glT):KOne X 108 kOpen':=by
 intro own0 w0 args st out h E w vals g hr
 unfold kOpen' at h
 split at h
 ·rename_i k s b
  obtain ⟨x,y,z,e,hx,hy,hz⟩:=RL3 hr
  rw [arr_of e]
  simp only [cond_eq_ite,Bool.and_eq_true] at h
  split at h
  ·rename_i hc
   cases h
   have h1:=instA_ok g hc.1 (RL_cons.2 ⟨hx,RL_cons.2 ⟨hy,RL_nil.2 rfl⟩⟩:RL E _ [x,y])
   rw [envOf_nil] at h1
   obtain ⟨b1,l1,c1,rfl,q1,q2,q3,q4,q5⟩:=lenR_ok g hc.2 hz
   rw [hP]
   refine (open_any (glW_of g hX) (RL_cons.1 h1).1 (RL_cons.1 (RL_cons.1 h1).2).1 (by omega) q3 q4 q5).mono fun e w' he=>?_
   obtain ⟨hb,he⟩:=he
   have g':=g.below hb
   rcases he with rfl | ⟨v,rfl,hv⟩
   ·exact ⟨_,List.mem_cons_self,E,_,Env.le_refl E,rfl,Rtup2 (by simp only [R]) (RN E 14),g'⟩
   ·obtain ⟨E',hle,hR,hG⟩:=g.newRow g' hv
    exact ⟨_,List.mem_cons_of_mem _ List.mem_cons_self,E',_,hle,rfl,Rtup2 hR (RN E' 0),hG⟩
  ·cases h
 ·cases h
theorem putR_ok {z:Int} (h1:-9223372036854775808≤z) (h2:z≤9223372036854775807):∃ a b,putR a b=true∧a≤z∧z≤b:=by
 by_cases h:z≤128
 ·exact ⟨_,_,put_low,h1,h⟩
 ·by_cases h':137≤z
  ·exact ⟨_,_,put_high,h',h2⟩
  ·have:z=129∨z=130∨z=131∨z=132∨z=133∨z=134∨z=135∨z=136:=by omega
   rcases this with rfl | rfl | rfl | rfl | rfl | rfl | rfl | rfl
   ·exact ⟨_,_,put_129,by omega,by omega⟩
   ·exact ⟨_,_,put_130,by omega,by omega⟩
   ·exact ⟨_,_,put_131,by omega,by omega⟩
   ·exact ⟨_,_,put_132,by omega,by omega⟩
   ·exact ⟨_,_,put_133,by omega,by omega⟩
   ·exact ⟨_,_,put_134,by omega,by omega⟩
   ·exact ⟨_,_,put_135,by omega,by omega⟩
   ·exact ⟨_,_,put_136,by omega,by omega⟩
theorem putReply_any (hw:GlW w) {r:Value} (hr:R noE (replyS I64) r) :
  Calls Tryz.prog 151 #[r] w fun e w'=>Below w.heap.size w w'∧∃ v c,e=.returned (.tuple #[v,i64 c])∧0≤c∧c≤3∧NewRow w w' 0 32 v:=by
 simp only [replyS,R] at hr
 obtain ⟨cs,rfl,hl⟩:=hr
 simp only [List.cons_append,List.nil_append,RL] at hl
 obtain ⟨v0,vs,hcs,hv0,hvs⟩:=hl
 simp only [I64,R,SIok] at hv0
 obtain ⟨z,⟨z1,z2⟩,rfl⟩:=hv0
 obtain ⟨a,b,e,ha,hb⟩:=putR_ok z1 z2
 unfold putR at e
 cases hrun:run Xp.T 60 151 [replyS (U a b)] emptySt with
 | none=>rw [hrun] at e; cases e
 | some out =>
  rw [hrun] at e
  refine (run_ok (X:=Xp) tabp pkp rkp (kp_ok _ w) 60 hrun (g_empty hw rfl) (RL_cons.2 ⟨?_,by simp [RL]⟩)).mono fun e' w' he=>?_
  ·simp only [replyS,R]
   refine ⟨cs,rfl,?_⟩
   rw [hcs]
   refine RL_cons.2 ⟨RU ha hb,?_⟩
   exact hvs
  ·obtain ⟨o,ho,E',x,h1,rfl,h3,h4⟩:=he
   refine ⟨below_of h4,?_⟩
   have hO:=allO_ok e o ho
   unfold putO at hO
   split at hO
   ·rename_i v p q ev
    simp only [Bool.and_eq_true,decide_eq_true_eq] at hO
    rw [ev] at h3
    obtain ⟨p',q',rfl,hp,hq⟩:=tup2 h3
    simp only [R,SIok] at hq
    obtain ⟨c,hc,rfl⟩:=hq
    exact ⟨p',c,rfl,by omega,by omega,new_of h4 hO.2.2.1 hO.2.2.2 hp⟩
   ·cases hO
def kPutReply' (args:List SV) (st:SE.St):Option Out :=
 bif instA st ⟨0,[]⟩ [replyS I64] args then some [(.tup [.sl st.nid,U 0 3],newB' st 0 32)] else none
theorem k_putReply (hP:X.P=Tryz.prog) (hX:X.T.gl=glT):KOne X 151 kPutReply':=by
 intro own0 w0 args st out h E w vals g hr
 simp only [kPutReply',cond_eq_ite] at h
 split at h
 ·rename_i hc
  cases h
  have h1:=instA_ok g hc hr
  rw [envOf_nil] at h1
  obtain ⟨x,e,hx⟩:=RL1 h1
  rw [arr_of e,hP]
  refine (putReply_any (glW_of g hX) hx).mono fun e w' he=>?_
  obtain ⟨hb,v,c,rfl,c1,c2,hv⟩:=he
  obtain ⟨E',hle,hR,hG⟩:=g.newRow (g.below hb) hv
  exact ⟨_,List.mem_cons_self,E',_,hle,rfl,Rtup2 hR (RU c1 c2),hG⟩
 ·cases h
theorem reads_of {base:Option Addr} {ln:Nat} (hb:ByteRow w base ln) (hs:∀ x,base=some x→x.block<w.heap.size):∃ l:List UInt8,l.length=ln∧Reads w w.heap.size 1 base ln (l.map bv):=by
 cases base with
 | none=>simp only [ByteRow] at hb; subst hb; exact ⟨[],rfl,Reads.none_⟩
 | some p =>
  obtain ⟨h1,vs,e,fr,h2,h3⟩:=hb
  have hex:∃ f:Nat→UInt8,∀ i,i<ln→vs[p.off+i]?=some (bv (f i)):=by
   refine ⟨fun i=>match vs[p.off+i]? with | some (.int _ z)=>UInt8.ofNat z.toNat | _=>0,fun i hi=>?_⟩
   obtain ⟨z,z1,z2,z3⟩:=h3 i hi
   simp only [z3,bv,Option.some.injEq,Value.int.injEq,true_and]
   have:(UInt8.ofNat z.toNat).toNat=z.toNat:=by simp; omega
   rw [this]
   omega
  obtain ⟨f,hf⟩:=hex
  refine ⟨(List.range ln).map f,by simp,by simp,fun _=>⟨p,rfl,hs p rfl,fun j u hu=>?_⟩⟩
  simp only [List.map_map,List.getElem?_map,Option.map_eq_some_iff] at hu
  obtain ⟨k,hk,rfl⟩:=hu
  rw [List.getElem?_eq_some_iff] at hk
  obtain ⟨hj,hk⟩:=hk
  simp at hj hk
  subst hk
  rw [add_spot h1,cell_at h2]
  exact hf j hj
theorem newRow_of_own {A:Option Addr} {k c:Nat} {l:List UInt8} (h:OwnB w' w.heap.size A k c l):NewRow w w' l.length l.length (.slice A k c):=by
 have hk:=h.length
 have hbd:=h.bounds
 refine ⟨A,k,c,rfl,by omega,by omega,hbd.1,?_,?_⟩
 ·rcases h.2 with ⟨h0,h1⟩ | ⟨g,cap,cur,h0,hb,hg,hn,hm,hsz,htk⟩
  ·cases h0; simp [ByteRow]
  ·cases h0
   refine ⟨rfl,cur,_,_,hg,fun i hi=>?_⟩
   have hl:i<l.length:=by omega
   have h4:(cur.toList.take (k*1))[i]?=some (bv l[i]):=by rw [htk]; simp [hl]
   rw [List.getElem?_take,if_pos (by omega)] at h4
   refine ⟨(l[i].toNat:Int),by omega,by have:=l[i].toNat_lt; omega,?_⟩
   simpa [bv] using h4
 ·intro p hp
  subst hp
  rcases h.2 with ⟨h0,h1⟩ | ⟨g,cap,cur,h0,hb,hg,hn,hm,hsz,htk⟩
  ·cases h0
  ·cases h0
   refine ⟨?_,hb⟩
   simp only
   exact (Array.getElem?_eq_some_iff.1 hg).1
def kPut' (args:List SV) (st:SE.St):Option Out :=
 match args with
 | [b]=>bif lenR st b 0 32 then some [(.tup [.sl st.nid,N 0],newB' st 0 40)] else none
 | _=>none
theorem NewRow.more {a b c d:Nat} {v:Value} (h:NewRow w w' a b v) (h1:c≤a) (h2:b≤d):NewRow w w' c d v:=by
 obtain ⟨base,ln,cp,e,q1,q2,q3⟩:=h
 exact ⟨base,ln,cp,e,by omega,by omega,q3⟩
theorem k_put (hP:X.P=Tryz.prog):KOne X 152 kPut':=by
 intro own0 w0 args st out h E w vals g hr
 unfold kPut' at h
 split at h
 ·rename_i b
  obtain ⟨x,e,hx⟩:=RL1 hr
  rw [arr_of e]
  simp only [cond_eq_ite] at h
  split at h
  ·rename_i hc
   cases h
   obtain ⟨b1,l1,c1,rfl,q1,q2,q3,q4,q5⟩:=lenR_ok g hc hx
   obtain ⟨l,hl,hrd⟩:=reads_of q4 q5
   rw [hP]
   refine (put_any w.heap.size b1 l1 c1 l w hrd (Nat.le_refl _) (by omega)).mono fun e w' he=>?_
   obtain ⟨A,k,c,rfl,ho,hb⟩:=he
   have hn:=(newRow_of_own ho).more (c:=0) (d:=40) (Nat.zero_le _) (by rw [Fr.put_length]; omega)
   obtain ⟨E',hle,hR,hG⟩:=g.newRow (g.below hb) hn
   exact ⟨_,List.mem_cons_self,E',_,hle,rfl,Rtup2 hR (RN E' 0),hG⟩
  ·cases h
 ·cases h
end SE
end
section
namespace SE
open Go.RowKit Crc
set_option maxHeartbeats 2000000
variable {X:Px} {own0:Nat→Prop} {w0 w w':World} {E:Env} {st:SE.St}
theorem key_any (B:Nat) (A:Option Addr) (n c:Nat) (x:List UInt8) (w:World) (hr:Reads w B 1 A n (x.map bv)) (hB:B≤w.heap.size) (hc:n≤c) :
  Calls Tryz.prog 26 #[.slice A n c] w fun e w'=>∃ v,e=.returned v∧Below w.heap.size w w'∧NewRow w w' 1 64 v:=by
 have hl:x.length=n:=by simpa using hr.1
 by_cases h0:n=0
 ·subst h0
  have hnew:NewRow w (w.alloc (.cells #[.int .u8 7] 5)) 1 64 (.slice (some ⟨w.heap.size,0,none⟩) 1 1):=by
   refine ⟨_,_,_,rfl,by omega,by omega,by omega,⟨rfl,_,_,_,heap_alloc_new w _,fun i hi=>⟨7,by omega,by omega,?_⟩⟩,fun p hp=>?_⟩
   ·have:i=0:=by omega
    subst this
    rfl
   ·cases hp
    exact ⟨by show w.heap.size<(w.heap.push _).size; rw [Array.size_push]; omega,Nat.le_refl _⟩
  have hbl:Below w.heap.size w (w.alloc (.cells #[.int .u8 7] 5)):=(Below.refl _ _).alloc (Nat.le_refl _) _
  go_enter Tryz.func26,Tryz.ntmps26
  go_wp2
  go_ret
  exact ⟨_,rfl,hbl,hnew⟩
 ·have hA:∃ a,A=some a:=by
   obtain ⟨ad,h1,_⟩:=hr.2 (by omega)
   exact ⟨ad,h1⟩
  obtain ⟨a,rfl⟩:=hA
  obtain ⟨w1,hw1⟩:∃ w1,w1=w.alloc (.cells #[] 5):=⟨_,rfl⟩
  have hb1:Below w.heap.size w w1:=by rw [hw1]; exact (Below.refl _ _).alloc (Nat.le_refl _) _
  have hz1:w1.heap.size=w.heap.size+1:=by rw [hw1]; show (w.heap.push _).size=_; rw [Array.size_push]
  have ho1:OwnB w1 w.heap.size (some ⟨w.heap.size,0,none⟩) 0 0 []:=by rw [hw1]; exact OwnB.made0 w (Nat.le_refl _)
  have hr1:Reads w1 B 1 (some a) n (x.map bv):=by
   refine hr.keep fun p hp=>?_
   exact hb1.cell (by omega)
  have he0:((n:Int) == 0)=false:=by simp; omega
  by_cases h64:n≤64
  ·have hmin:(if (64:Int)<(n:Int) then (64:Int) else (n:Int))=n:=by rw [if_neg (by omega)]
   have h64':¬ (64:Int)<(n:Int):=by omega
   have hlb:0≤(n:Int):=by omega
   have hnc:(n:Int)≤(c:Int):=by omega
   go_enter Tryz.func26,Tryz.ntmps26
   go_wp2_with (refine wpList_append_b rfl (.tmp 7) (.tmp 12) rfl w.heap.size _ 0 0 [] rfl (by rw [← hw1]; exact ho1) B (some a) n c x rfl (by rw [← hw1]; exact hr1) (by omega) (by rw [← hw1]; omega) ?_; intro A' k' c' w' hk1 hk2 ho hg hb)
   go_ret
   rw [← hw1] at hg
   have hn:=newRow_of_own ho
   exact ⟨_,rfl,hb1.grown hg (by omega) (fun k e=>by simp [Value.ownBlock] at e; omega),hn.more (by simp; omega) (by simp; omega)⟩
  ·have h64':(64:Int)<(n:Int):=by omega
   have hlb:0≤(n:Int):=by omega
   have h64c:(64:Int)≤(c:Int):=by omega
   have hr64:Reads w1 B 1 (some a) 64 ((x.take 64).map bv):=hr1.bytesTake (by omega)
   have hl64:(x.take 64).length=64:=by rw [List.length_take]; omega
   go_enter Tryz.func26,Tryz.ntmps26
   go_wp2_with (refine wpList_append_b rfl (.tmp 7) (.tmp 12) rfl w.heap.size _ 0 0 [] rfl (by rw [← hw1]; exact ho1) B (some a) 64 c (x.take 64) rfl (by rw [← hw1]; exact hr64) (by omega) (by rw [← hw1]; omega) ?_; intro A' k' c' w' hk1 hk2 ho hg hb)
   go_ret
   rw [← hw1] at hg
   have hn:=newRow_of_own ho
   exact ⟨_,rfl,hb1.grown hg (by omega) (fun k e=>by simp [Value.ownBlock] at e; omega),hn.more (by rw [List.nil_append,hl64]; omega) (by rw [List.nil_append,hl64]; omega)⟩
theorem clone_any (B:Nat) (A:Option Addr) (n c:Nat) (x:List UInt8) (w:World) (hr:Reads w B 1 A n (x.map bv)) (hB:B≤w.heap.size) (hc:n≤c) (h1:1≤n) (h64:n≤64) :
  Calls Tryz.prog 43 #[.slice A n c] w fun e w'=>∃ v,e=.returned v∧Below w.heap.size w w'∧NewRow w w' 1 64 v:=by
 have hl:x.length=n:=by simpa using hr.1
 obtain ⟨a,rfl⟩:∃ a,A=some a:=by
  obtain ⟨ad,h1,_⟩:=hr.2 (by omega)
  exact ⟨ad,h1⟩
 obtain ⟨w1,hw1⟩:∃ w1,w1=w.alloc (.cells #[] 5):=⟨_,rfl⟩
 have hb1:Below w.heap.size w w1:=by rw [hw1]; exact (Below.refl _ _).alloc (Nat.le_refl _) _
 have hz1:w1.heap.size=w.heap.size+1:=by rw [hw1]; show (w.heap.push _).size=_; rw [Array.size_push]
 have ho1:OwnB w1 w.heap.size (some ⟨w.heap.size,0,none⟩) 0 0 []:=by rw [hw1]; exact OwnB.made0 w (Nat.le_refl _)
 have hr1:Reads w1 B 1 (some a) n (x.map bv):=hr.keep fun p hp=>hb1.cell (by omega)
 have hnil:∀ w,(binOp BinOp.eql 23 (.slice (some a) n c) (.slice none 0 0)).run Tryz.prog w=.ok (.bool false) w:=fun w=>by kernel_rfl
 go_enter Tryz.func43,Tryz.ntmps43
 go_wp2_with (refine wpList_append_b rfl (.tmp 5) (.tmp 6) rfl w.heap.size _ 0 0 [] rfl (by rw [← hw1]; exact ho1) B (some a) n c x rfl (by rw [← hw1]; exact hr1) (by omega) (by rw [← hw1]; omega) ?_; intro A' k' c' w' hk1 hk2 ho hg hb)
 go_ret
 rw [← hw1] at hg
 have hn:=newRow_of_own ho
 exact ⟨_,rfl,hb1.grown hg (by omega) (fun k e=>by simp [Value.ownBlock] at e; omega),hn.more (by simp; omega) (by simp; omega)⟩
theorem mod_any (a m:Int) (w:World) (hm:1≤m∧m≤100000):Calls Tryz.prog 27 #[.int .i64 a,.int .i64 m] w fun e w'=>w=w'∧∃ z,e=.returned (i64 z)∧0≤z∧z≤m - 1:=by
 have hm0:¬ m=0:=by omega
 have hm1:¬ m=-1:=by omega
 go_enter Tryz.func27,Tryz.ntmps27
 go_wp2
 have h1:=Int.tmod_lt_of_pos a (show 0<m by omega)
 have h2:-m<a.tmod m:=by
  have:=Int.tmod_lt_of_pos (-a) (show 0<m by omega)
  rw [Int.neg_tmod] at this
  omega
 have hw:wrap64 (a.tmod m+m)=a.tmod m+m:=by unfold wrap64; omega
 go_ret
 refine ⟨rfl,_,rfl,?_,?_⟩
 ·rw [hw]; exact Int.tmod_nonneg _ (by omega)
 ·have:=Int.tmod_lt_of_pos (wrap64 (a.tmod m+m)) (show 0<m by omega)
  omega
end SE
end
end Go.Proofs.YtdgejnakakjgfaaGreatDoor
