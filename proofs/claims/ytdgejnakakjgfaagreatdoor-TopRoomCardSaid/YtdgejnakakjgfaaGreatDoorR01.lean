/- The symbolic executor: forcing, tests, tables; what its values mean. The symbolic executor: what a state means; integers. The symbolic executor: integers' operations. The symbolic executor: operations that only compute. The symbolic executor: operations that only compute, all of them. -/
import Derived.Test.YtdgejnakakjgfaaGreatDoorR00
import Derived.Laws.Sem
import Derived.Laws.World
import Derived.Laws.Rows
set_option linter.unusedVariables false
set_option linter.unusedSimpArgs false
set_option maxRecDepth 100000
namespace Go.Proofs.YtdgejnakakjgfaaGreatDoor
section
namespace SE
section
variable {α:Type}
theorem fN_eq (n:Nat) (k:Nat→α):fN n k=k n:=rfl
theorem fI_eq (n:Int) (k:Int→α):fI n k=k n:=by cases n <;> rfl
theorem fSI_eq (x:SI) (k:SI→α):fSI x k=k x:=by cases x <;> simp [fSI,fI_eq,fN_eq]
theorem fK_eq (x:IntKind) (k:IntKind→α):fK x k=k x:=by cases x <;> rfl
theorem fC_eq (x:SV) (k:SV→α):fC x k=k x:=by cases x <;> simp [fC,fK_eq,fSI_eq,fN_eq,fI_eq]
theorem fCs_eq (x:List SV) (k:List SV→α):fCs x k=k x:=by
 induction x generalizing k with
 | nil=>rfl
 | cons v l ih=>simp only [fCs,fC_eq,ih]
theorem fV2_eq (x:SV) (k:SV→α):fV2 x k=k x:=by
 unfold fV2
 rw [fC_eq]
 cases x <;> simp only [fCs_eq]
theorem fL_eq (x:List SV) (k:List SV→α):fL x k=k x:=by
 induction x generalizing k with
 | nil=>rfl
 | cons v l ih=>simp only [fL,fV2_eq,ih]
theorem fV_eq (x:SV) (k:SV→α):fV x k=k x:=by
 unfold fV
 rw [fC_eq]
 cases x <;> simp only [fCs_eq,fL_eq,fV2_eq,fN_eq]
theorem fS_eq {β:Type} (x:List β) (k:List β→α):fS x k=k x:=by
 induction x generalizing k with
 | nil=>rfl
 | cons v l ih=>simp only [fS]; rw [ih]
theorem fT_eq (x:List (Nat×Int×Int)) (k:List (Nat×Int×Int)→α):fT x k=k x:=by
 induction x generalizing k with
 | nil=>rfl
 | cons v l ih=>obtain ⟨i,a,b⟩:=v; simp only [fT,fN_eq,fI_eq]; rw [ih]
theorem fSl_eq (x:SlI) (k:SlI→α):fSl x k=k x:=by cases x <;> simp [fSl,fSI_eq,fN_eq,fCs_eq]
theorem fSls_eq (x:List (Nat×SlI)) (k:List (Nat×SlI)→α):fSls x k=k x:=by
 induction x generalizing k with
 | nil=>rfl
 | cons v l ih=>obtain ⟨i,a⟩:=v; simp only [fSls,fN_eq,fSl_eq]; rw [ih]
theorem fBlk_eq (x:Blk) (k:Blk→α):fBlk x k=k x:=by cases x <;> simp [fBlk,fN_eq,fS_eq]
theorem fH_eq (x:List (Nat×Blk)) (k:List (Nat×Blk)→α):fH x k=k x:=by
 induction x generalizing k with
 | nil=>rfl
 | cons v l ih=>obtain ⟨i,a⟩:=v; simp only [fH,fN_eq,fBlk_eq]; rw [ih]
theorem fSt_eq (x:St) (k:St→α):fSt x k=k x:=by
 obtain ⟨h,t,s,n,f⟩:=x
 simp only [fSt,fH_eq,fT_eq,fSls_eq,fN_eq,fS_eq]
theorem fHs_eq (x:List (Nat×Blk)) (k:List (Nat×Blk)→α):fHs x k=k x:=by
 induction x generalizing k with
 | nil=>rfl
 | cons p l ih=>obtain ⟨i,a⟩:=p; simp only [fHs,ih]
theorem fH1_eq (x:List (Nat×Blk)) (k:List (Nat×Blk)→α):fH1 x k=k x:=by
 cases x with
 | nil=>rfl
 | cons p l=>obtain ⟨i,a⟩:=p; simp only [fH1,fN_eq,fBlk_eq,fHs_eq]
theorem fBlkF_eq (x:Blk) (k:Blk→α):fBlkF x k=k x:=by cases x <;> simp [fBlkF,fN_eq,fCs_eq]
theorem fHF_eq (x:List (Nat×Blk)) (k:List (Nat×Blk)→α):fHF x k=k x:=by
 induction x generalizing k with
 | nil=>rfl
 | cons p l ih=>obtain ⟨i,a⟩:=p; simp only [fHF,fN_eq,fBlkF_eq,ih]
theorem fFs_eq (x:List (Nat×List SV)) (k:List (Nat×List SV)→α):fFs x k=k x:=by
 induction x generalizing k with
 | nil=>rfl
 | cons p l ih=>obtain ⟨i,a⟩:=p; simp only [fFs,fN_eq,fCs_eq,ih]; cases Nat.ble a.length 8 <;> rfl
theorem fStK_eq (x:St) (k:St→α):fStK x k=k x:=by
 obtain ⟨h,t,s,n,f⟩:=x
 simp only [fStK,fHF_eq,fT_eq,fSls_eq,fN_eq,fFs_eq]
theorem fOut_eq (l:Out):fOut l=l:=by
 induction l with
 | nil=>rfl
 | cons p l ih=>obtain ⟨v,st⟩:=p; simp only [fOut,fV_eq,fStK_eq,ih]
theorem fStM_eq (x:St) (k:St→α):fStM x k=k x:=by
 obtain ⟨h,t,s,n,f⟩:=x
 simp only [fStM,fH1_eq,fSls_eq,fN_eq]
theorem fStT_eq (x:St) (k:St→α):fStT x k=k x:=by
 obtain ⟨h,t,s,n,f⟩:=x
 simp only [fStT,fT_eq]
theorem appS_eq {β:Type} (m n:List β):appS m n=some (m++n):=by
 cases n with
 | nil=>simp [appS]
 | cons y t=>simp [appS,fS_eq]
theorem setK_eq (t:TT) (n:Nat) (v:SV) (k:TT→α):setK t n v k=k (t.set n v):=by
 induction t generalizing n k with
 | lf=>rfl
 | nd x l r il ir =>
  simp only [setK,TT.set]
  cases Nat.beq n 0 with
  | true=>rfl
  | false =>
   cases Nat.beq (n % 2) 1 with
   | true=>simp only [cond_false,cond_true]; rw [il]
   | false=>simp only [cond_false]; rw [ir]
theorem putK_eq (t:TT) (d:Option Nat) (v:SV) (k:TT→α):putK t d v k=k (putD t d v):=by
 cases d <;> simp [putK,putD,setK_eq]
theorem fNs_eq (x:List Nat) (k:List Nat→α):fNs x k=k x:=by
 induction x generalizing k with
 | nil=>rfl
 | cons v l ih=>simp only [fNs,fN_eq]; rw [ih]
theorem fInf_eq (x:List (Inf×List Edge)) (k:List (Inf×List Edge)→α):fInf x k=k x:=by
 induction x generalizing k with
 | nil=>rfl
 | cons v l ih =>
  obtain ⟨⟨d,s⟩,es⟩:=v
  simp only [fInf,fNs_eq,fS_eq]
  cases d <;> (simp only []; rw [ih])
end
theorem nbeq {a b:Nat} (h:Nat.beq a b=true):a=b:=Nat.eq_of_beq_eq_true h
theorem nbeq_false {a b:Nat} (h:Nat.beq a b=false):a≠b:=fun e=>by subst e; rw [Nat.beq_refl] at h; cases h
theorem kN_inj {a b:IntKind} (h:kN a=kN b):a=b:=by cases a <;> cases b <;> simp [kN] at h <;> rfl
theorem eqK_iff {a b:IntKind} (h:eqK a b=true):a=b:=kN_inj (nbeq h)
theorem SI.beq_eq {a b:SI} (h:a.beq b=true):a=b:=by
 cases a <;> cases b <;> simp [SI.beq] at h
 ·obtain ⟨h1,h2⟩:=h; rw [h1,h2]
 ·rw [h]
theorem Cmp.toNat_inj {a b:Cmp} (h:a.toNat=b.toNat):a=b:=by cases a <;> cases b <;> simp [Cmp.toNat] at h <;> rfl
theorem SV.beqC_eq {a b:SV} (h:SV.beqC a b=true):a=b:=by
 cases a <;> cases b <;> simp only [SV.beqC,Bool.and_eq_true,decide_eq_true_eq,Bool.false_eq_true] at h <;> first
  | rfl
  | (rw [kN_inj (nbeq h.1),SI.beq_eq h.2])
  | (rw [Cmp.toNat_inj (nbeq h.1),nbeq h.2.1,h.2.2])
  | (rw [nbeq h.1,nbeq h.2.1,nbeq h.2.2.1,nbeq h.2.2.2])
  | (rw [nbeq h.1,nbeq h.2])
  | (rw [nbeq h])
theorem SV.beqCs_eq:∀ {a b:List SV},SV.beqCs a b=true→a=b
 | [],[],h=>rfl
 | [],_::_,h=>by simp [SV.beqCs] at h
 | _::_,[],h=>by simp [SV.beqCs] at h
 | x::l,y::m,h=>by
  simp only [SV.beqCs,Bool.and_eq_true] at h
  rw [SV.beqC_eq h.1,SV.beqCs_eq h.2]
theorem SV.beqV_eq {a b:SV} (h:SV.beqV a b=true):a=b:=by
 unfold SV.beqV at h
 split at h
 ·rw [SV.beqCs_eq h]
 ·simp only [Bool.and_eq_true,decide_eq_true_eq] at h
  rw [h.1,SV.beqCs_eq h.2.1,SV.beqCs_eq h.2.2]
 ·exact SV.beqC_eq h
theorem SV.beqVs_eq:∀ {a b:List SV},SV.beqVs a b=true→a=b
 | [],[],h=>rfl
 | [],_::_,h=>by simp [SV.beqVs] at h
 | _::_,[],h=>by simp [SV.beqVs] at h
 | x::l,y::m,h=>by
  simp only [SV.beqVs,Bool.and_eq_true] at h
  rw [SV.beqV_eq h.1,SV.beqVs_eq h.2]
theorem SV.beq_eq (a b:SV) (h:SV.beq a b=true):a=b:=by
 unfold SV.beq at h
 split at h
 ·rw [SV.beqCs_eq h]
 ·rw [SV.beqVs_eq h]
 ·simp only [Bool.and_eq_true,decide_eq_true_eq] at h
  rw [h.1,SV.beqCs_eq h.2.1,SV.beqCs_eq h.2.2]
 ·simp only [Bool.and_eq_true] at h
  rw [nbeq h.1,SV.beqV_eq h.2]
 ·exact SV.beqC_eq h
theorem SV.beqL_eq:∀ (a b:List SV),SV.beqL a b=true→a=b
 | [],[],h=>rfl
 | [],_::_,h=>by simp [SV.beqL] at h
 | _::_,[],h=>by simp [SV.beqL] at h
 | x::l,y::m,h=>by
  simp only [SV.beqL,Bool.and_eq_true] at h
  rw [SV.beq_eq _ _ h.1,SV.beqL_eq _ _ h.2]
theorem beqM_eq:∀ {a b:List (Int×SV)},beqM a b=true→a=b
 | [],[],_=>rfl
 | [],_::_,h=>by simp [beqM] at h
 | _::_,[],h=>by simp [beqM] at h
 | (i,x)::l,(j,y)::m,h=>by
  simp only [beqM,Bool.and_eq_true,decide_eq_true_eq] at h
  rw [h.1,SV.beq_eq _ _ h.2.1,beqM_eq h.2.2]
theorem Blk.beq_eq {a b:Blk} (h:a.beq b=true):a=b:=by
 cases a <;> cases b <;> simp only [Blk.beq,Bool.and_eq_true,Bool.false_eq_true] at h
 ·rw [nbeq h.1,SV.beqL_eq _ _ h.2]
 ·rw [nbeq h.1,nbeq h.2.1,nbeq h.2.2.1,SV.beqL_eq _ _ h.2.2.2]
 ·rw [beqM_eq h]
 ·rfl
 ·rw [nbeq h.1,SV.beqL_eq _ _ h.2]
theorem beqH_eq:∀ {a b:List (Nat×Blk)},beqH a b=true→a=b
 | [],[],_=>rfl
 | (i,x)::l,(j,y)::m,h=>by
  simp only [beqH,Bool.and_eq_true] at h
  rw [nbeq h.1,Blk.beq_eq h.2.1,beqH_eq h.2.2]
theorem beqT_eq:∀ {a b:List (Nat×Int×Int)},beqT a b=true→a=b
 | [],[],_=>rfl
 | (i,x,x')::l,(j,y,y')::m,h=>by
  simp only [beqT,Bool.and_eq_true,decide_eq_true_eq] at h
  rw [nbeq h.1,h.2.1,h.2.2.1,beqT_eq h.2.2.2]
theorem SlI.beq_eq {a b:SlI} (h:a.beq b=true):a=b:=by
 cases a <;> cases b <;> simp [SlI.beq] at h
 ·rw [SI.beq_eq h]
 ·simp [h]
 ·obtain ⟨h1,h2,h3⟩:=h
  rw [h1,h2,SV.beqL_eq _ _ h3]
theorem beqS_eq:∀ {a b:List (Nat×SlI)},beqS a b=true→a=b
 | [],[],_=>rfl
 | (i,x)::l,(j,y)::m,h=>by
  simp only [beqS,Bool.and_eq_true] at h
  rw [nbeq h.1,SlI.beq_eq h.2.1,beqS_eq h.2.2]
theorem beqF_eq:∀ {a b:List (Nat×List SV)},beqF a b=true→a=b
 | [],[],_=>rfl
 | (i,x)::l,(j,y)::m,h=>by
  simp only [beqF,Bool.and_eq_true] at h
  rw [nbeq h.1,SV.beqL_eq _ _ h.2.1,beqF_eq h.2.2]
theorem St.beq_eq {a b:St} (h:a.beq b=true):a=b:=by
 obtain ⟨h1,t1,s1,n1,f1⟩:=a
 obtain ⟨h2,t2,s2,n2,f2⟩:=b
 simp only [St.beq,Bool.and_eq_true] at h
 rw [nbeq h.1,beqH_eq h.2.1,beqT_eq h.2.2.1,beqS_eq h.2.2.2.1,beqF_eq h.2.2.2.2]
theorem TT.beq_eq:∀ {a b:TT},a.beq b=true→a=b
 | .lf,.lf,_=>rfl
 | .nd v l r,.nd w m s,h=>by
  simp only [TT.beq,Bool.and_eq_true] at h
  rw [SV.beq_eq _ _ h.1,TT.beq_eq h.2.1,TT.beq_eq h.2.2]
theorem inSx_mem {x:Sx}:∀ {l:List Sx},inSx x l=true→x∈l
 | [],h=>by simp [inSx] at h
 | y::l,h=>by
  simp only [inSx] at h
  cases hb:(x.1.beq y.1&&x.2.beq y.2) with
  | true =>
   simp only [Bool.and_eq_true] at hb
   have:x=y:=Prod.ext (TT.beq_eq hb.1) (St.beq_eq hb.2)
   rw [this]; exact List.mem_cons_self
  | false=>rw [hb] at h; exact List.mem_cons_of_mem _ (inSx_mem h)
theorem dedup_mem {x:Sx}:∀ {l:List Sx},x∈l→x∈dedup l
 | y::l,h=>by
  simp only [dedup]
  cases hb:inSx y l with
  | true =>
   rcases List.mem_cons.1 h with rfl | h
   ·exact dedup_mem (inSx_mem hb)
   ·exact dedup_mem h
  | false =>
   rcases List.mem_cons.1 h with rfl | h
   ·exact List.mem_cons_self
   ·exact List.mem_cons_of_mem _ (dedup_mem h)
theorem lk_upd {α:Type} (l:List (Nat×α)) (k:Nat) (y:α) (k':Nat):lk (upd l k y) k'=if k'=k then some y else lk l k':=by
 induction l with
 | nil =>
  simp only [upd,lk]
  cases h:Nat.beq k k' with
  | true=>rw [if_pos (nbeq h).symm]; rfl
  | false=>rw [if_neg (fun e=>nbeq_false h e.symm)]; rfl
 | cons x l ih =>
  obtain ⟨i,x⟩:=x
  simp only [upd]
  cases h:Nat.beq i k with
  | true =>
   have e:=nbeq h
   subst e
   simp only [cond_true,lk]
   cases h2:Nat.beq i k' with
   | true=>rw [if_pos (nbeq h2).symm]; rfl
   | false=>rw [if_neg (fun e=>nbeq_false h2 e.symm)]; rfl
  | false =>
   simp only [cond_false,lk]
   cases h2:Nat.beq i k' with
   | true =>
    have e:=nbeq h2
    subst e
    rw [if_neg (nbeq_false h)]; rfl
   | false=>simp only [cond_false]; exact ih
theorem lk_del {α:Type} (l:List (Nat×α)) (k:Nat) (k':Nat):lk (del l k) k'=if k'=k then none else lk l k':=by
 induction l with
 | nil=>simp [del,lk]
 | cons x l ih =>
  obtain ⟨i,x⟩:=x
  simp only [del]
  cases h:Nat.beq i k with
  | true =>
   have e:=nbeq h
   subst e
   simp only [cond_true,lk,ih]
   cases h2:Nat.beq i k' with
   | true=>rw [if_pos (nbeq h2).symm,if_pos (nbeq h2).symm]
   | false=>simp only [cond_false]
  | false =>
   simp only [cond_false,lk]
   cases h2:Nat.beq i k' with
   | true =>
    have e:=nbeq h2
    subst e
    rw [if_neg (nbeq_false h)]; rfl
   | false=>simp only [cond_false]; exact ih
theorem lk_cons {α:Type} (i:Nat) (x:α) (l:List (Nat×α)) (k:Nat):lk ((i,x)::l) k=if k=i then some x else lk l k:=by
 simp only [lk]
 cases h:Nat.beq i k with
 | true=>rw [if_pos (nbeq h).symm]; rfl
 | false=>rw [if_neg (fun e=>nbeq_false h e.symm)]; rfl
theorem TT.get_set_ne (t:TT) (n:Nat) (v:SV) (m:Nat) (hmn:m≠n):(t.set n v).get m=t.get m:=by
 induction t generalizing n m with
 | lf=>rfl
 | nd x l r il ir =>
  simp only [TT.set]
  cases h0:Nat.beq n 0 with
  | true =>
   have e:=nbeq h0
   subst e
   have:Nat.beq m 0=false:=by
    cases hb:Nat.beq m 0 with
    | true=>exact absurd (nbeq hb) hmn
    | false=>rfl
   simp [TT.get,this]
  | false =>
   have hn:=nbeq_false h0
   simp only [cond_false]
   cases hm0:Nat.beq m 0 with
   | true=>cases hb:Nat.beq (n % 2) 1 <;> simp [TT.get,hm0]
   | false =>
    have hm:=nbeq_false hm0
    cases hb:Nat.beq (n % 2) 1 with
    | true =>
     have e1:=nbeq hb
     simp only [cond_true,TT.get,hm0,cond_false]
     cases hb2:Nat.beq (m % 2) 1 with
     | true =>
      have e2:=nbeq hb2
      simp only [cond_true]
      exact il (n / 2) (m / 2) (by omega)
     | false=>simp only [cond_false]
    | false =>
     have e1:=nbeq_false hb
     simp only [cond_false,TT.get,hm0]
     cases hb2:Nat.beq (m % 2) 1 with
     | true=>simp only [cond_true]
     | false =>
      have e2:=nbeq_false hb2
      simp only [cond_false]
      exact ir (n / 2 - 1) (m / 2 - 1) (by omega)
theorem TT.get_set_self (t:TT) (n:Nat) (v:SV):(t.set n v).get n=v∨(t.set n v).get n=.u:=by
 induction t generalizing n with
 | lf=>exact .inr rfl
 | nd x l r il ir =>
  simp only [TT.set]
  cases h0:Nat.beq n 0 with
  | true=>simp only [cond_true,TT.get,h0]; exact .inl trivial
  | false =>
   simp only [cond_false]
   cases hb:Nat.beq (n % 2) 1 with
   | true=>simp only [cond_true,TT.get,h0,hb,cond_false]; exact il _
   | false=>simp only [cond_false,TT.get,h0,hb]; exact ir _
inductive EV where
 | z (n:Int)
 | blk (n:Nat)
 | sl (base:Option Addr) (len cap:Nat)
abbrev Env:=Nat→Option EV
def cmpZ (c:Cmp) (x y:Int):Bool :=
 match c with
 | .eq=>decide (x=y) | .ne=>decide (x≠y) | .lt=>decide (x<y) | .le=>decide (x≤y) | .gt=>decide (y<x) | .ge=>decide (y≤x)
def SIok (E:Env):SI→Int→Prop
 | .r lo hi,z=>lo≤z∧z≤hi
 | .a id,z=>E id=some (.z z)
mutual
def R (E:Env):SV→Value→Prop
 | .u,_=>True
 | .int k x,v=>∃ z,SIok E x z∧v=.int k z
 | .tt,v=>v=.bool true
 | .ff,v=>v=.bool false
 | .bool,v=>∃ b,v=.bool b
 | .cmp c id n,v=>∃ z,E id=some (.z z)∧v=.bool (cmpZ c z n)
 | .ptr b off,v=>∃ n,E b=some (.blk n)∧v=.pointer (some ⟨n,off,none⟩)
 | .nilp,v=>v=.pointer none
 | .sp id,v=>∃ x len cap,E id=some (.sl (some x) len cap)∧x.spot=none∧v=.pointer (some x)
 | .sq id,v=>∃ x len cap i,E id=some (.sl (some x) len cap)∧x.spot=none∧i<len∧v=.pointer (some ⟨x.block,x.off+i,none⟩)
 | .gp g off,v=>v=.pointer (some ⟨g,off,none⟩)
 | .slc b off len cap,v=>∃ n,E b=some (.blk n)∧v=.slice (some ⟨n,off,none⟩) len cap
 | .nils,v=>v=.slice none 0 0
 | .sl id,v=>∃ base len cap,E id=some (.sl base len cap)∧v=.slice base len cap
 | .agg l,v=>∃ cs:Array Value,v=.agg cs∧RL E l cs.toList
 | .tup l,v=>∃ cs:Array Value,v=.tuple cs∧RL E l cs.toList
 | .func fn f c,v=>∃ fs cs:Array Value,v=.func fn fs cs∧RL E f fs.toList∧RL E c cs.toList
 | .nilf,v=>v=.nilFunc
 | .iface t x,v=>∃ y,v=.iface t y∧R E x y
 | .nili,v=>v=.nilIface
 | .mapv b,v=>∃ n,E b=some (.blk n)∧v=.map (some n)
def RL (E:Env):List SV→List Value→Prop
 | [],vs=>vs=[]
 | h::t,vs=>∃ v vs',vs=v::vs'∧R E h v∧RL E t vs'
end
def Env.le (E E':Env):Prop:=∀ id x,E id=some x→E' id=some x
theorem Env.le_refl (E:Env):E.le E:=fun _ _ h=>h
theorem Env.le_trans {E E' E'':Env} (h:E.le E') (h':E'.le E''):E.le E'':=fun id x hx=>h' id x (h id x hx)
theorem SIok.mono {E E':Env} (h:E.le E') {x:SI} {z:Int} (hx:SIok E x z):SIok E' x z:=by
 cases x with
 | r lo hi=>exact hx
 | a id=>exact h _ _ hx
mutual
theorem R.mono {E E':Env} (h:E.le E') (x:SV) (v:Value) (hx:R E x v):R E' x v:=by
 match x with
 | .u=>trivial
 | .int k x=>simp only [R] at *; obtain ⟨z,hz,e⟩:=hx; exact ⟨z,hz.mono h,e⟩
 | .tt | .ff | .bool | .nilp | .nils | .nilf | .nili=>exact hx
 | .cmp c id n=>simp only [R] at *; obtain ⟨z,hz,e⟩:=hx; exact ⟨z,h _ _ hz,e⟩
 | .ptr b off=>simp only [R] at *; obtain ⟨z,hz,e⟩:=hx; exact ⟨z,h _ _ hz,e⟩
 | .sp id=>simp only [R] at *; obtain ⟨a,l,c,hz,e⟩:=hx; exact ⟨a,l,c,h _ _ hz,e⟩
 | .sq id=>simp only [R] at *; obtain ⟨a,l,c,i,hz,e⟩:=hx; exact ⟨a,l,c,i,h _ _ hz,e⟩
 | .gp g off=>exact hx
 | .slc b off len cap=>simp only [R] at *; obtain ⟨z,hz,e⟩:=hx; exact ⟨z,h _ _ hz,e⟩
 | .sl id=>simp only [R] at *; obtain ⟨a,l,c,hz,e⟩:=hx; exact ⟨a,l,c,h _ _ hz,e⟩
 | .agg l=>simp only [R] at *; obtain ⟨cs,e,hl⟩:=hx; exact ⟨cs,e,RL.mono h l _ hl⟩
 | .tup l=>simp only [R] at *; obtain ⟨cs,e,hl⟩:=hx; exact ⟨cs,e,RL.mono h l _ hl⟩
 | .func fn f c=>simp only [R] at *; obtain ⟨fs,cs,e,h1,h2⟩:=hx; exact ⟨fs,cs,e,RL.mono h f _ h1,RL.mono h c _ h2⟩
 | .iface t x=>simp only [R] at *; obtain ⟨y,e,hy⟩:=hx; exact ⟨y,e,R.mono h x _ hy⟩
 | .mapv b=>simp only [R] at *; obtain ⟨z,hz,e⟩:=hx; exact ⟨z,h _ _ hz,e⟩
theorem RL.mono {E E':Env} (h:E.le E') (x:List SV) (v:List Value) (hx:RL E x v):RL E' x v:=by
 match x with
 | []=>exact hx
 | a::l=>simp only [RL] at *; obtain ⟨v,vs,e,h1,h2⟩:=hx; exact ⟨v,vs,e,R.mono h a _ h1,RL.mono h l _ h2⟩
end
theorem RL_nil {E:Env} {vs:List Value}:RL E [] vs↔vs=[]:=by simp [RL]
theorem RL_cons {E:Env} {x:SV} {l:List SV} {v:Value} {vs:List Value}:RL E (x::l) (v::vs)↔R E x v∧RL E l vs:=by
 simp only [RL]
 constructor
 ·rintro ⟨v',vs',e,h1,h2⟩
  cases e
  exact ⟨h1,h2⟩
 ·rintro ⟨h1,h2⟩
  exact ⟨v,vs,rfl,h1,h2⟩
theorem RL_length {E:Env}:∀ {l:List SV} {vs:List Value},RL E l vs→vs.length=l.length
 | [],vs,h=>by rw [RL_nil.1 h]; rfl
 | x::l,[],h=>by simp [RL] at h
 | x::l,v::vs,h=>by simp [RL_length (RL_cons.1 h).2]
theorem RL_append {E:Env}:∀ {l m:List SV} {vs ws:List Value},RL E l vs→RL E m ws→RL E (l++m) (vs++ws)
 | [],m,vs,ws,h,h'=>by rw [RL_nil.1 h]; exact h'
 | x::l,m,[],ws,h,h'=>by simp [RL] at h
 | x::l,m,v::vs,ws,h,h'=>RL_cons.2 ⟨(RL_cons.1 h).1,RL_append (RL_cons.1 h).2 h'⟩
theorem RL_nth {E:Env}:∀ {l:List SV} {vs:List Value} {i:Nat} {x:SV},RL E l vs→nth l i=some x→∃ v,vs[i]?=some v∧R E x v
 | y::l,[],i,x,h,_=>by simp [RL] at h
 | y::l,v::vs,0,x,h,e=>by simp only [nth] at e; cases e; exact ⟨v,rfl,(RL_cons.1 h).1⟩
 | y::l,v::vs,i+1,x,h,e=>by
  simp only [nth] at e
  obtain ⟨w,hw,hr⟩:=RL_nth (RL_cons.1 h).2 e
  exact ⟨w,by simpa using hw,hr⟩
theorem RL_take {E:Env}:∀ {n:Nat} {l m:List SV} {vs:List Value},RL E l vs→takeL n l=some m→RL E m (vs.take n)∧n≤l.length
 | 0,l,m,vs,h,e=>by simp only [takeL] at e; cases e; exact ⟨by simp [RL],by simp⟩
 | n+1,[],m,vs,h,e=>by simp [takeL] at e
 | n+1,x::l,m,[],h,e=>by simp [RL] at h
 | n+1,x::l,m,v::vs,h,e=>by
  simp only [takeL] at e
  split at e
  ·rename_i m' hm
   cases e
   have:=RL_take (RL_cons.1 h).2 hm
   exact ⟨by rw [List.take_succ_cons]; exact RL_cons.2 ⟨(RL_cons.1 h).1,this.1⟩,by simp; exact this.2⟩
  ·cases e
theorem RL_drop {E:Env}:∀ {n:Nat} {l:List SV} {vs:List Value},RL E l vs→RL E (dropL n l) (vs.drop n)
 | 0,l,vs,h=>by simpa [dropL] using h
 | n+1,[],vs,h=>by rw [RL_nil.1 h]; simp [dropL,RL]
 | n+1,x::l,[],h=>by simp [RL] at h
 | n+1,x::l,v::vs,h=>by simp only [dropL,List.drop_succ_cons]; exact RL_drop (RL_cons.1 h).2
theorem dropL_length {α:Type}:∀ (n:Nat) (l:List α),(dropL n l).length=l.length - n
 | 0,l=>by simp [dropL]
 | n+1,[]=>by simp [dropL]
 | n+1,x::l=>by simp [dropL,dropL_length n l]
theorem RL_cut {E:Env} {off n:Nat} {l m:List SV} {vs:List Value} (h:RL E l vs) (e:cut off n l=some m):RL E m ((vs.drop off).take n)∧(n=0∨off+n≤vs.length):=by
 unfold cut at e
 have h1:=RL_take (RL_drop (n:=off) h) e
 refine ⟨h1.1,?_⟩
 have h2:=h1.2
 rw [dropL_length] at h2
 rw [RL_length h]
 omega
theorem RL_over {E:Env}:∀ {l ys m:List SV} {vs ws:List Value},RL E l vs→RL E ys ws→over l ys=some m→RL E m (ws++vs.drop ws.length)∧ws.length≤vs.length
 | l,[],m,vs,ws,h,h',e=>by
  rw [RL_nil.1 h']
  have:over l []=some l:=by cases l <;> rfl
  rw [this] at e
  cases e
  exact ⟨by simpa using h,by simp⟩
 | [],y::ys,m,vs,ws,h,h',e=>by simp [over] at e
 | x::l,y::ys,m,[],ws,h,h',e=>by simp [RL] at h
 | x::l,y::ys,m,v::vs,[],h,h',e=>by simp [RL] at h'
 | x::l,y::ys,m,v::vs,w::ws,h,h',e=>by
  simp only [over] at e
  split at e
  ·rename_i m' hm
   cases e
   have:=RL_over (RL_cons.1 h).2 (RL_cons.1 h').2 hm
   exact ⟨by simp only [List.cons_append,List.length_cons,List.drop_succ_cons]; exact RL_cons.2 ⟨(RL_cons.1 h').1,this.1⟩,by simp; exact this.2⟩
  ·cases e
theorem RL_splice {E:Env}:∀ {off:Nat} {l ys m:List SV} {vs ws:List Value},RL E l vs→RL E ys ws→splice off l ys=some m →
  RL E m (vs.take off++ws++vs.drop (off+ws.length))∧off+ws.length≤vs.length
 | 0,l,ys,m,vs,ws,h,h',e=>by
  have:splice 0 l ys=over l ys:=by cases l <;> rfl
  rw [this] at e
  have:=RL_over h h' e
  exact ⟨by simpa using this.1,by simpa using this.2⟩
 | off+1,[],ys,m,vs,ws,h,h',e=>by simp [splice] at e
 | off+1,x::l,ys,m,[],ws,h,h',e=>by simp [RL] at h
 | off+1,x::l,ys,m,v::vs,ws,h,h',e=>by
  simp only [splice] at e
  split at e
  ·rename_i m' hm
   cases e
   have:=RL_splice (RL_cons.1 h).2 h' hm
   refine ⟨?_,by simp; have:=this.2; omega⟩
   rw [List.take_succ_cons,show off+1+ws.length=(off+ws.length)+1 by omega,List.drop_succ_cons,List.cons_append,List.cons_append]
   exact RL_cons.2 ⟨(RL_cons.1 h).1,this.1⟩
  ·cases e
theorem oneCell_of {E:Env} {x:SV} {v:Value} (h:R E x v) (hc:isCell x=true):v.oneCell'=true:=by
 cases x <;> simp only [isCell,Bool.false_eq_true] at hc <;> simp only [R] at h
 case int=>obtain ⟨z,_,rfl⟩:=h; rfl
 case tt=>rw [h]; rfl
 case ff=>rw [h]; rfl
 case bool=>obtain ⟨z,rfl⟩:=h; rfl
 case cmp=>obtain ⟨z,_,rfl⟩:=h; rfl
 case ptr=>obtain ⟨z,_,rfl⟩:=h; rfl
 case nilp=>rw [h]; rfl
 case sp=>obtain ⟨a,l,c,_,_,rfl⟩:=h; rfl
 case sq=>obtain ⟨a,l,c,i,_,_,_,rfl⟩:=h; rfl
 case gp=>rw [h]; rfl
 case slc=>obtain ⟨z,_,rfl⟩:=h; rfl
 case nils=>rw [h]; rfl
 case sl=>obtain ⟨a,l,c,_,rfl⟩:=h; rfl
 case func=>obtain ⟨a,l,rfl,_,_⟩:=h; rfl
 case nilf=>rw [h]; rfl
 case iface=>obtain ⟨y,rfl,_⟩:=h; rfl
 case nili=>rw [h]; rfl
 case mapv=>obtain ⟨z,_,rfl⟩:=h; rfl
theorem cells_of_cell {v:Value} (h:v.oneCell'=true):v.cells=#[v]:=by cases v <;> first | rfl | simp [Value.oneCell'] at h
theorem RL_cells {E:Env} {x:SV} {v:Value} (h:R E x v) (hx:allCell (cellsOf x)=true):RL E (cellsOf x) v.cells.toList:=by
 cases x
 case agg l=>simp only [R] at h; obtain ⟨cs,rfl,hl⟩:=h; exact hl
 all_goals
  simp only [cellsOf,allCell,Bool.and_true] at hx
  have:=cells_of_cell (oneCell_of h hx)
  simp only [cellsOf]
  rw [this]
  exact RL_cons.2 ⟨h,by simp [RL]⟩
theorem allCell_one {E:Env}:∀ {l:List SV} {vs:List Value},RL E l vs→allCell l=true→∀ v∈vs,v.oneCell'=true
 | [],vs,h,_,v,hv=>by rw [RL_nil.1 h] at hv; cases hv
 | x::l,[],h,_,v,hv=>by cases hv
 | x::l,w::vs,h,hc,v,hv=>by
  simp only [allCell,Bool.and_eq_true] at hc
  rcases List.mem_cons.1 hv with rfl | hv
  ·exact oneCell_of (RL_cons.1 h).1 hc.1
  ·exact allCell_one (RL_cons.1 h).2 hc.2 v hv
theorem ofV_ok (E:Env) (v:Value):R E (ofV v) v:=by
 unfold ofV
 split <;> simp [R,SIok]
end SE
end
section
namespace SE
theorem TT.has_set (t:TT) (n:Nat) (v:SV) (m:Nat):(t.set n v).has m=t.has m:=by
 induction t generalizing n m with
 | lf=>rfl
 | nd x l r il ir =>
  simp only [TT.set]
  cases Nat.beq n 0 with
  | true=>rfl
  | false =>
   simp only [cond_false]
   cases Nat.beq (n % 2) 1 with
   | true=>simp only [cond_true,TT.has,il]
   | false=>simp only [cond_false,TT.has,ir]
theorem TT.get_not (t:TT) (n:Nat) (h:t.has n=false):t.get n=.u:=by
 induction t generalizing n with
 | lf=>rfl
 | nd x l r il ir =>
  simp only [TT.has,TT.get] at *
  cases h0:Nat.beq n 0 with
  | true=>rw [h0] at h; cases h
  | false =>
   rw [h0] at h
   simp only [cond_false] at *
   cases hb:Nat.beq (n % 2) 1 with
   | true=>rw [hb] at h; simp only [cond_true] at *; exact il _ h
   | false=>rw [hb] at h; simp only [cond_false] at *; exact ir _ h
theorem TT.has_mkT (nt:Nat):∀ (f x y j:Nat),(mkT nt f x y).has j=true→x*j+y<nt
 | 0,x,y,j,h=>by simp [mkT,TT.has] at h
 | f+1,x,y,j,h=>by
  simp only [mkT] at h
  cases hb:Nat.blt y nt with
  | false=>rw [hb] at h; simp [TT.has] at h
  | true =>
   have hy:y<nt:=Nat.le_of_ble_eq_true hb
   rw [hb] at h
   simp only [cond_true,TT.has] at h
   cases h0:Nat.beq j 0 with
   | true=>rw [nbeq h0]; omega
   | false =>
    have hj:=nbeq_false h0
    rw [h0] at h
    simp only [cond_false] at h
    cases hb2:Nat.beq (j % 2) 1 with
    | true =>
     have e:=nbeq hb2
     rw [hb2] at h
     simp only [cond_true] at h
     have:=TT.has_mkT nt f (2*x) (x+y) (j / 2) h
     have e2:j=2*(j / 2)+1:=by omega
     rw [e2,Nat.mul_add,Nat.mul_left_comm]
     rw [Nat.mul_assoc] at this
     omega
    | false =>
     have e:=nbeq_false hb2
     rw [hb2] at h
     simp only [cond_false] at h
     have:=TT.has_mkT nt f (2*x) (2*x+y) (j / 2 - 1) h
     have e2:j=2*(j / 2 - 1)+2:=by omega
     rw [e2,Nat.mul_add,Nat.mul_left_comm]
     rw [Nat.mul_assoc] at this
     omega
theorem TT.get_mkT (nt:Nat):∀ (f x y j:Nat),(mkT nt f x y).get j=.u
 | 0,x,y,j=>rfl
 | f+1,x,y,j=>by
  simp only [mkT]
  cases Nat.blt y nt with
  | false=>rfl
  | true =>
   simp only [cond_true,TT.get]
   cases Nat.beq j 0 with
   | true=>rfl
   | false =>
    cases Nat.beq (j % 2) 1 with
    | true=>exact TT.get_mkT nt f _ _ _
    | false=>exact TT.get_mkT nt f _ _ _
structure FOk (E:Env) (tm:TT) (a:Act):Prop where
 slot:∀ i,R E (tm.get i) (a.tmps.getD i undef)
 has:∀ i,tm.has i=true→i<a.tmps.size
 defers:a.defers=[]
theorem FOk.set {E:Env} {tm:TT} {a:Act} (h:FOk E tm a) (d:Nat) {v:SV} {x:Value} (hv:R E v x):FOk E (tm.set d v) { a with tmps:=a.tmps.setIfInBounds d x }:=by
 refine ⟨fun i=>?_,fun i hi=>?_,h.defers⟩
 ·by_cases hid:i=d
  ·subst hid
   cases hb:tm.has i with
   | true =>
    have hlt:=h.has i hb
    have hg:(a.tmps.setIfInBounds i x).getD i undef=x:=by simp [hlt]
    rw [hg]
    rcases TT.get_set_self tm i v with e | e
    ·rw [e]; exact hv
    ·rw [e]; trivial
   | false =>
    rw [TT.get_not _ _ (by rw [TT.has_set]; exact hb)]
    trivial
  ·rw [TT.get_set_ne _ _ _ _ hid]
   have:(a.tmps.setIfInBounds d x).getD i undef=a.tmps.getD i undef:=by
    simp [Array.getElem?_setIfInBounds_ne (Ne.symm hid)]
   rw [this]
   exact h.slot i
 ·rw [TT.has_set] at hi
  simpa using h.has i hi
theorem FOk.put {E:Env} {tm:TT} {a:Act} (h:FOk E tm a) (d:Option Nat) {v:SV} {x:Value} (hv:R E v x):FOk E (putD tm d v) (a.put d x):=by
 cases d with
 | none=>exact h
 | some d=>exact h.set d hv
theorem FOk.mono {E E':Env} {tm:TT} {a:Act} (h:FOk E tm a) (he:E.le E'):FOk E' tm a:=⟨fun i=>(h.slot i).mono he,h.has,h.defers⟩
theorem FOk.refine {E:Env} {tm:TT} {a:Act} (h:FOk E tm a) (t:Nat) {v:SV} (hv:R E v (a.tmps.getD t undef)):FOk E (tm.set t v) a:=by
 refine ⟨fun i=>?_,fun i hi=>by rw [TT.has_set] at hi; exact h.has i hi,h.defers⟩
 by_cases hid:i=t
 ·subst hid
  rcases TT.get_set_self tm i v with e | e
  ·rw [e]; exact hv
  ·rw [e]; trivial
 ·rw [TT.get_set_ne _ _ _ _ hid]; exact h.slot i
theorem FOk.eval {E:Env} {tm:TT} {a:Act} (h:FOk E tm a) (x:Operand):R E (rho tm x) (a.eval x):=by
 cases x with
 | tmp t=>exact h.slot t
 | const v=>exact ofV_ok E v
 | global g=>simp [rho,R,Act.eval]
 | func f=>simp [rho,R,Act.eval,RL]
theorem FOk.evalL {E:Env} {tm:TT} {a:Act} (h:FOk E tm a):∀ l:List Operand,RL E (rhoL tm l) (l.map a.eval)
 | []=>by simp [rhoL,RL]
 | x::l=>by simp only [rhoL,List.map_cons]; exact RL_cons.2 ⟨h.eval x,h.evalL l⟩
def UDok:UD→TypeDesc→Prop
 | .bool,.bool=>True
 | .int k,.int j=>j=k
 | .ptr e,.pointer x=>x=e
 | .slice e,.slice x=>x=e
 | .arr n e,.array m x=>m=n∧x=e
 | .str fs,.struct gs=>gs.toList.map (fun f=>(f.type,f.offset))=fs
 | .map k e,.map l x=>l=k∧x=e
 | .func,.func ..=>True
 | .iface,.interface _=>True
 | .other,.struct _=>False
 | .other,.array ..=>False
 | .other,.interface _=>False
 | .other,_=>True
 | _,_=>False
def ByteRow (w:World) (base:Option Addr) (ln:Nat):Prop :=
 match base with
 | none=>ln=0
 | some a=>a.spot=none∧∃ vs e fr,w.heap[a.block]?=some (.cells vs e fr)∧∀ i,i<ln→∃ z:Int,0≤z∧z≤255∧vs[a.off+i]?=some (.int .u8 z)
structure Px where
 P:Program
 T:Tb
 UF:Nat→List Value→Prop
 RP:Nat→List Value→List Value→Prop
section
variable (X:Px)
def RM (E:Env):List (Int×SV)→List MapEntry→Prop
 | [],ms=>ms=[]
 | (k,v)::l,ms=>∃ m ms',ms=m::ms'∧m.key=.int .i64 k∧R E v m.val∧RM E l ms'
theorem RM.mono {E E':Env} (h:E.le E'):∀ {l:List (Int×SV)} {ms:List MapEntry},RM E l ms→RM E' l ms
 | [],ms,r=>r
 | (k,v)::l,ms,r=>by
  obtain ⟨m,ms',rfl,h1,h2,h3⟩:=r
  exact ⟨m,ms',rfl,h1,h2.mono h,RM.mono h h3⟩
def BlkOk (E:Env) (w:World) (n:Nat):Blk→Prop
 | .cells e cs=>∃ vs:Array Value,w.heap[n]?=some (.cells vs e (0,0))∧RL E cs vs.toList
 | .row e sz sid cs=>∃ vs:Array Value,∃ len cap,w.heap[n]?=some (.cells vs e (0,0))∧E sid=some (.sl (some ⟨n,0,none⟩) len cap)∧vs.size=cap*sz∧cs.length=len*sz∧len≤cap ∧
   RL E cs (vs.toList.take cs.length)
 | .map es=>∃ ms clock,w.heap[n]?=some (.map ms clock)∧RM E es ms.toList
 | .opq=>True
 | .ro e cs=>∃ vs:Array Value,w.heap[n]?=some (.cells vs e (0,0))∧RL E cs vs.toList
 | .res _ _ _=>False
def OwnRow (nm:Nat) (vs:List Value) (base:Option Addr) (ln cap:Nat) (obj:Option Obj):Prop :=
 ∃ e sz rest,X.T.ownE nm=some (e,sz)∧vs=.int .i64 ln::rest∧((base=none∧ln=0∧cap=0∧X.RP nm rest []) ∨
  ∃ n us,base=some ⟨n,0,none⟩∧obj=some (.cells us e (0,0))∧us.size=cap*sz∧ln≤cap∧X.RP nm rest (us.toList.take (ln*sz)))
def SlOk (E:Env) (st:St) (w:World) (id:Nat):SlI→Prop
 | .bytes len=>∃ base ln cap,E id=some (.sl base ln cap)∧SIok E len ln∧ln≤cap∧ByteRow w base ln ∧
   ∀ x,base=some x→x.block<w.heap.size∧∀ bid blk,lk st.heap bid=some blk→E bid≠some (.blk x.block)
 | .row b len=>∃ n cap,E b=some (.blk n)∧E id=some (.sl (some ⟨n,0,none⟩) len cap)
 | .own b nm args=>lk st.heap b=some .opq∧∃ base ln cap vs,E id=some (.sl base ln cap)∧RL E args vs∧(∀ x,base=some x→E b=some (.blk x.block)) ∧
   OwnRow X nm vs base ln cap (base.bind fun x=>w.heap[x.block]?)
structure G (own0:Nat→Prop) (w0:World) (E:Env) (st:St) (w:World):Prop where
 size:w0.heap.size≤w.heap.size
 os:w.os=w0.os
 tape:w.tape=w0.tape
 output:w.output=w0.output
 frame:∀ n,n<w0.heap.size→¬ own0 n→w.heap[n]?=w0.heap[n]?
 heap:∀ id blk,lk st.heap id=some blk→(blk=.opq∧id<st.nid∧∀ n,E id=some (.blk n)→n<w.heap.size∧(own0 n∨w0.heap.size≤n))∨∃ n,E id=some (.blk n)∧n<w.heap.size∧(blk.isRo=true∨own0 n∨w0.heap.size≤n)∧BlkOk E w n blk
 inj:∀ id id' b b' n,lk st.heap id=some b→lk st.heap id'=some b'→E id=some (.blk n)→E id'=some (.blk n)→id=id'
 tab:∀ id lo hi,lk st.tab id=some (lo,hi)→∃ z,E id=some (.z z)∧lo≤z∧z≤hi
 sls:∀ id i,lk st.sls id=some i→SlOk X E st w id i
 dom:∀ id,st.nid≤id→E id=none
 gl:∀ g cs,X.T.gl g=some cs→g<w.heap.size∧(∀ id blk,lk st.heap id=some blk→E id≠some (.blk g))∧∃ vs e fr,w.heap[g]?=some (.cells vs e fr)∧RL E cs vs.toList
 facts:∀ x∈st.facts,∃ vs,RL E x.2 vs∧X.UF x.1 vs
structure TabOk:Prop where
 ty:∀ t y,X.T.ty.get t=some y→∃ d i,X.P.underlying t=some d∧X.P.info? t=some i∧i.size=y.size∧i.bytes=y.bytes∧UDok y.und d∧allCell y.zero=true∧y.zero.length=y.size ∧
  ∃ z,i.zero=some z∧∀ E,RL E y.zero z.cells.toList
 fn:∀ g fn,X.T.fn.get g=some fn→X.P.funcs[g]?=some fn∧(fn.name == "runtime.NumGoroutine")=false∧fn.body.isNone=false
 mixed:X.P.follows .mixedOrders=true
 ik:∀ t,X.T.ik t=true→∃ k e,X.P.underlying t=some (.map k e)∧X.P.underlying k=some (.int .i64)
 emp:∀ nm args,X.T.emp nm args=true→∀ E vs,RL E args vs→X.RP nm vs []
 glz:∀ gg cs,X.T.gl gg=some cs→∀ E E' vs,RL E cs vs→RL E' cs vs
 inv:∀ t nm g,X.T.inv t nm=some (g,none)→∀ v w,(method (X.P.types.size+Made.depth) t v nm).run X.P w=.ok (g,v) w
 invl:∀ t nm g e,X.T.inv t nm=some (g,some e)→∀ v z w,(Instr.loadAt e v).run X.P w=.ok z w→(method (X.P.types.size+Made.depth) t v nm).run X.P w=.ok (g,z) w
 eqt:∀ t,X.T.eqt t=true→∀ y,X.T.ty.get t=some y→∀ E l m,shapeS y.zero l=true→shapeS y.zero m=true→∀ xs ys:Array Value,RL E l xs.toList→RL E m ys.toList →
  ∀ op,(op=.eql∨op=.neq)→∀ x y',∃ b,∀ w,(do eqGuard op t x y' (.agg xs) (.agg ys); binOp op t (.agg xs) (.agg ys):Sem Value).run X.P w=.ok (.bool b) w
end
theorem kbits_eq (k:IntKind):k.bits=kbits k:=by cases k <;> rfl
theorem wrap_in {k:IntKind} {z:Int} (h1:kmin k≤z) (h2:z≤kmax k):k.wrap z=z:=by
 cases k <;> simp only [kmin,kmax] at h1 h2 <;> simp [IntKind.wrap,IntKind.signed,IntKind.bits] <;> (try split) <;> omega
theorem wrap_range (k:IntKind) (z:Int):kmin k≤k.wrap z∧k.wrap z≤kmax k:=by
 cases k <;> simp only [kmin,kmax] <;> simp [IntKind.wrap,IntKind.signed,IntKind.bits] <;> (try split) <;> omega
variable {X:Px} {own0:Nat→Prop} {w0 w:World} {E:Env} {st:St}
theorem rng_ok (g:G X own0 w0 E st w) {sv:SV} {v:Value} {k:IntKind} {lo hi:Int} (e:rng st sv=some (k,lo,hi)) (h:R E sv v):∃ z,v=.int k z∧lo≤z∧z≤hi:=by
 unfold rng at e
 split at e
 ·cases e
  simp only [R,SIok] at h
  obtain ⟨z,hz,rfl⟩:=h
  exact ⟨z,rfl,hz⟩
 ·split at e
  ·rename_i k' id _ lo' hi' hl
   cases e
   simp only [R,SIok] at h
   obtain ⟨z,hz,rfl⟩:=h
   obtain ⟨z',hz',hb⟩:=g.tab _ _ _ hl
   rw [hz] at hz'
   cases hz'
   exact ⟨z,rfl,hb⟩
  ·cases e
 ·cases e
theorem rngI_ok (g:G X own0 w0 E st w) {x:SI} {lo hi z:Int} (e:rngI st x=some (lo,hi)) (h:SIok E x z):lo≤z∧z≤hi:=by
 cases x with
 | r a b=>simp only [rngI] at e; cases e; exact h
 | a id =>
  obtain ⟨z',hz',hb⟩:=g.tab _ _ _ e
  simp only [SIok] at h
  rw [h] at hz'
  cases hz'
  exact hb
theorem cst_ok (g:G X own0 w0 E st w) {sv:SV} {v:Value} {n:Int} (e:cst st sv=some n) (h:R E sv v):∃ k,v=.int k n:=by
 unfold cst at e
 cases hr:rng st sv with
 | none=>rw [hr] at e; cases e
 | some p =>
  obtain ⟨k,lo,hi⟩:=p
  rw [hr] at e
  obtain ⟨z,rfl,h1,h2⟩:=rng_ok g hr h
  cases hb:decide (lo=hi) with
  | true =>
   simp only [hb,cond_true,Option.some.injEq] at e
   simp only [decide_eq_true_eq] at hb
   have:z=n:=by omega
   subst this
   exact ⟨k,rfl⟩
  | false=>simp only [hb,cond_false] at e; cases e
theorem cstN_ok (g:G X own0 w0 E st w) {sv:SV} {v:Value} {n:Nat} (e:cstN st sv=some n) (h:R E sv v):∃ k,v=.int k n:=by
 unfold cstN at e
 split at e
 ·rename_i m hm
  cases e
  exact cst_ok g hm h
 ·cases e
theorem mk_ok {k:IntKind} {lo hi z:Int} (h1:lo≤z) (h2:z≤hi):R E (mk k lo hi) (.int k (k.wrap z)):=by
 unfold mk
 cases hb:inK k lo hi with
 | true =>
  simp only [inK,Bool.and_eq_true,decide_eq_true_eq] at hb
  simp only [cond_true,R,SIok]
  exact ⟨z,⟨h1,h2⟩,by rw [wrap_in (by omega) (by omega)]⟩
 | false =>
  simp only [cond_false,full,R,SIok]
  exact ⟨_,wrap_range k z,rfl⟩
theorem full_ok (k:IntKind) (z:Int):R E (full k) (.int k (k.wrap z)):=by
 simp only [full,R,SIok]
 exact ⟨_,wrap_range k z,rfl⟩
theorem cmpI_ok {c:Cmp} {l1 h1 l2 h2 x y:Int} {b:Bool} (e:cmpI c l1 h1 l2 h2=some b) (a1:l1≤x) (a2:x≤h1) (b1:l2≤y) (b2:y≤h2):cmpZ c x y=b:=by
 cases c <;> simp only [cmpI,cmpZ,cond_eq_ite,Bool.and_eq_true,Bool.or_eq_true,decide_eq_true_eq] at*<;> split at e
 all_goals first
  | (cases e; simp; omega)
  | (split at e <;> (cases e; simp; omega))
  | (split at e <;> first | (cases e; simp; omega) | cases e)
theorem evalB_ok (g:G X own0 w0 E st w) {sv:SV} {v:Value} {b:Bool} (e:evalB st sv=some b) (h:R E sv v):v=.bool b:=by
 cases sv <;> simp only [evalB] at e <;> try cases e
 case tt=>exact h
 case ff=>exact h
 case cmp c id n =>
  split at e
  ·rename_i lo hi hl
   simp only [R] at h
   obtain ⟨z,hz,rfl⟩:=h
   obtain ⟨z',hz',hb⟩:=g.tab _ _ _ hl
   rw [hz] at hz'
   cases hz'
   rw [cmpI_ok e hb.1 hb.2 (Int.le_refl n) (Int.le_refl n)]
  ·cases e
theorem isB_ok {sv:SV} {v:Value} (e:isB sv=true) (h:R E sv v):∃ b,v=.bool b:=by
 cases sv <;> simp only [isB,Bool.false_eq_true] at e <;> simp only [R] at h
 case tt=>exact ⟨_,h⟩
 case ff=>exact ⟨_,h⟩
 case bool=>exact h
 case cmp=>obtain ⟨z,_,rfl⟩:=h; exact ⟨_,rfl⟩
theorem ofB_ok (b:Bool):R E (ofB b) (.bool b):=by cases b <;> simp [ofB,R]
theorem cmpZ_swap (c:Cmp) (x y:Int):cmpZ c.swap y x=cmpZ c x y:=by
 cases c <;> simp only [cmpZ,Cmp.swap] <;> (first | rfl | (simp only [decide_eq_decide]; omega))
theorem cmpZ_neg (c:Cmp) (x y:Int):cmpZ c.neg x y=!cmpZ c x y:=by
 cases c <;> simp only [cmpZ,Cmp.neg] <;> rw [← decide_not] <;> simp only [decide_eq_decide] <;> omega
theorem cmpSV_ok (g:G X own0 w0 E st w) {c:Cmp} {x y r:SV} {u v:Value} (e:cmpSV st c x y=some r) (hx:R E x u) (hy:R E y v) :
  ∃ k a b,u=.int k a∧v=.int k b∧R E r (.bool (cmpZ c a b)):=by
 unfold cmpSV at e
 split at e
 ·rename_i k1 l1 h1 k2 l2 h2 e1 e2
  obtain ⟨a,rfl,a1,a2⟩:=rng_ok g e1 hx
  obtain ⟨b,rfl,b1,b2⟩:=rng_ok g e2 hy
  cases hk:eqK k1 k2 with
  | false=>rw [hk] at e; cases e
  | true =>
   have:=eqK_iff hk
   subst this
   rw [hk] at e
   simp only [cond_true] at e
   refine ⟨k1,a,b,rfl,rfl,?_⟩
   split at e
   ·rename_i b' hb'
    cases e
    rw [cmpI_ok hb' a1 a2 b1 b2]
    exact ofB_ok _
   ·split at e
    ·rename_i _ i _ j
     simp only [R,SIok] at hx hy
     obtain ⟨za,hza,eqa⟩:=hx
     obtain ⟨zb,hzb,eqb⟩:=hy
     cases eqa
     cases eqb
     cases hij:Nat.beq i j with
     | true =>
      rw [hij] at e
      have:=nbeq hij
      subst this
      rw [hza] at hzb
      cases hzb
      cases e
      cases c <;> simp [cmpSame,cmpZ,R]
     | false=>rw [hij] at e; cases e; exact ⟨_,rfl⟩
    ·rename_i _ i hne
     simp only [R,SIok] at hx
     obtain ⟨za,hza,eqa⟩:=hx
     cases eqa
     cases hd:decide (l2=h2) with
     | true =>
      rw [hd] at e
      simp only [decide_eq_true_eq] at hd
      cases e
      have:b=l2:=by omega
      subst this
      simp only [R]
      exact ⟨_,hza,rfl⟩
     | false=>rw [hd] at e; cases e; exact ⟨_,rfl⟩
    ·rename_i _ j hne
     simp only [R,SIok] at hy
     obtain ⟨za,hza,eqa⟩:=hy
     cases eqa
     cases hd:decide (l1=h1) with
     | true =>
      rw [hd] at e
      simp only [decide_eq_true_eq] at hd
      cases e
      have:a=l1:=by omega
      subst this
      simp only [R]
      exact ⟨_,hza,by rw [cmpZ_swap]⟩
     | false=>rw [hd] at e; cases e; exact ⟨_,rfl⟩
    ·cases e; exact ⟨_,rfl⟩
 ·cases e
theorem mn_le (a b:Int):mn a b≤a∧mn a b≤b∧(mn a b=a∨mn a b=b):=by
 unfold mn
 cases h:decide (a≤b) <;> simp at h <;> simp <;> omega
theorem le_mx (a b:Int):a≤mx a b∧b≤mx a b∧(mx a b=a∨mx a b=b):=by
 unfold mx
 cases h:decide (a≤b) <;> simp at h <;> simp <;> omega
end SE
end
section
namespace SE
variable {X:Px} {own0:Nat→Prop} {w0 w:World} {E:Env} {st:St}
theorem kmax_lt (k:IntKind):kmax k<2 ^ k.bits:=by cases k <;> decide
theorem ofInt_toNat {k:IntKind} {z:Int} (h1:0≤z) (h2:z≤kmax k):(BitVec.ofInt k.bits z).toNat=z.toNat:=by
 have:=kmax_lt k
 rw [BitVec.toNat_ofInt,Int.emod_eq_of_lt h1 (by push_cast; omega)]
theorem pow2_eq (n:Nat):pow2 n=(2:Int) ^ n:=by
 unfold pow2
 simp
theorem pow2_pos (n:Nat):1≤pow2 n:=by
 unfold pow2
 have:0<2 ^ n:=Nat.two_pow_pos n
 simp only [Int.ofNat_eq_natCast]
 omega
theorem binOp_int {P:Program} {op:BinOp} {t:Nat} {x y:Operand} {k:IntKind} {a b:Int} (h:op≠.shl∧op≠.shr) (w:World) :
  (do eqGuard op t x y (.int k a) (.int k b); binOp op t (.int k a) (.int k b):Sem Value).run P w=(match op with
   | .add | .sub | .mul=>Op.intArith op k a b
   | .quo | .rem=>Op.intDiv op k a b
   | .and | .or | .xor | .andNot=>Op.intBits op k a b
   | _=>Op.intCmp op a b).run P w:=by
 cases op <;> simp [eqGuard,binOp] at *
theorem binOp_shift {P:Program} {op:BinOp} {t:Nat} {x y:Operand} {k j:IntKind} {a b:Int} (h:op=.shl∨op=.shr) (w:World) :
  (do eqGuard op t x y (.int k a) (.int j b); binOp op t (.int k a) (.int j b):Sem Value).run P w=(Op.shift op k a j b).run P w:=by
 rcases h with rfl | rfl <;> simp [eqGuard,binOp]
theorem tmod_le {a b:Int} (ha:0≤a) (hb:1≤b):0≤a.tmod b∧a.tmod b≤a∧a.tmod b≤b - 1:=by
 rw [Int.tmod_eq_emod_of_nonneg ha]
 have h1:=Int.emod_nonneg a (show b≠0 by omega)
 have h2:=Int.emod_lt_of_pos a (show 0<b by omega)
 have h3:=Int.emod_def a b
 have h4:=Int.ediv_nonneg ha (show (0:Int)≤b by omega)
 have h5:=Int.mul_nonneg (show (0:Int)≤b by omega) h4
 omega
theorem tmod_abs {a b:Int} (hb:1≤b):-(b - 1)≤a.tmod b∧a.tmod b≤b - 1:=by
 rcases Int.le_total 0 a with ha | ha
 ·have:=tmod_le ha hb; omega
 ·have h:=tmod_le (a:=-a) (b:=b) (by omega) hb
  rw [Int.neg_tmod] at h
  omega
theorem nbits_ok {a b h1 h2:Nat} (a1:a≤h1) (b1:b≤h2) (a2:h1<2 ^ 64) (b2:h2<2 ^ 64):a<2 ^ nbits h1 h2∧b<2 ^ nbits h1 h2:=by
 unfold nbits
 simp only [cond_eq_ite,Bool.and_eq_true,Nat.ble_eq]
 split
 ·exact ⟨by omega,by omega⟩
 ·split
  ·exact ⟨by omega,by omega⟩
  ·split
   ·exact ⟨by omega,by omega⟩
   ·split
    ·exact ⟨by omega,by omega⟩
    ·exact ⟨by omega,by omega⟩
theorem arith_ok {P:Program} {op:BinOp} {k:IntKind} {l1 h1 l2 h2 a b:Int} {r:SV} (e:arith op k l1 h1 l2 h2=some r) (a1:l1≤a) (a2:a≤h1) (b1:l2≤b) (b2:b≤h2) (t:Nat) (x y:Operand) :
  ∃ z,R E r (.int k z)∧∀ w,(do eqGuard op t x y (.int k a) (.int k b); binOp op t (.int k a) (.int k b):Sem Value).run P w=.ok (.int k z) w:=by
 cases op <;> simp only [arith] at e <;> try cases e
 case add=>exact ⟨_,mk_ok (show l1+l2≤a+b by omega) (show a+b≤h1+h2 by omega),fun w=>by rw [binOp_int (by simp)]; rfl⟩
 case sub=>exact ⟨_,mk_ok (show l1 - h2≤a - b by omega) (show a - b≤h1 - l2 by omega),fun w=>by rw [binOp_int (by simp)]; rfl⟩
 case mul =>
  refine ⟨_,?_,fun w=>by rw [binOp_int (by simp)]; rfl⟩
  cases hc:(decide (0≤l1)&&decide (0≤l2)) with
  | true =>
   rw [hc] at e
   simp only [Bool.and_eq_true,decide_eq_true_eq] at hc
   cases e
   refine mk_ok ?_ ?_
   ·exact Int.mul_le_mul a1 b1 hc.2 (by omega)
   ·exact Int.mul_le_mul a2 b2 (by omega) (by omega)
  | false=>rw [hc] at e; cases e; exact full_ok _ _
 case and =>
  refine ⟨_,?_,fun w=>by rw [binOp_int (by simp)]; rfl⟩
  simp only [cond_eq_ite,Bool.and_eq_true,decide_eq_true_eq] at e
  split at e
  ·rename_i hc
   cases e
   have ea:a=l1:=by omega
   have eb:b=l2:=by omega
   subst ea
   subst eb
   have h3:(BitVec.ofInt k.bits a &&& BitVec.ofInt k.bits b).toNat=a.toNat &&& b.toNat:=by
    rw [BitVec.toNat_and,ofInt_toNat hc.2.2.1 (by omega),ofInt_toNat hc.2.2.2.1 (by omega)]
   have h4:a.toNat &&& b.toNat≤a.toNat:=Nat.and_le_left
   have hk:kmin k≤0:=by cases k <;> decide
   rw [h3,wrap_in (by omega) (by omega)]
   simp only [R,SIok]
   exact ⟨_,⟨Int.le_refl _,Int.le_refl _⟩,rfl⟩
  ·split at e
   ·rename_i hc
    cases e
    have h3:(BitVec.ofInt k.bits a &&& BitVec.ofInt k.bits b).toNat≤b.toNat:=by
     rw [BitVec.toNat_and,ofInt_toNat (z:=b) (by omega) (by omega)]
     exact Nat.and_le_right
    have hk:kmin k≤0:=by cases k <;> decide
    rw [wrap_in (by omega) (by omega)]
    simp only [R,SIok]
    exact ⟨_,⟨by omega,by omega⟩,rfl⟩
   ·cases e; exact full_ok _ _
 case or =>
  refine ⟨_,?_,fun w=>by rw [binOp_int (by simp)]; rfl⟩
  simp only [cond_eq_ite,Bool.and_eq_true,decide_eq_true_eq] at e
  split at e
  ·rename_i hc
   cases e
   have hk:kmin k≤0:=by cases k <;> decide
   have hkb:kmax k<2 ^ 64:=by cases k <;> decide
   have hn:=nbits_ok (a:=a.toNat) (b:=b.toNat) (h1:=h1.toNat) (h2:=h2.toNat) (by omega) (by omega) (by omega) (by omega)
   have hlt:(BitVec.ofInt k.bits a ||| BitVec.ofInt k.bits b).toNat<2 ^ nbits h1.toNat h2.toNat:=by
    rw [BitVec.toNat_or,ofInt_toNat (by omega) (by omega),ofInt_toNat (by omega) (by omega)]
    exact Nat.or_lt_two_pow hn.1 hn.2
   have hp:pow2 (nbits h1.toNat h2.toNat)=((2 ^ nbits h1.toNat h2.toNat:Nat):Int):=rfl
   unfold mk
   rw [hp]
   cases hi:inK k 0 (((2 ^ nbits h1.toNat h2.toNat:Nat):Int) - 1) with
   | false=>exact full_ok _ _
   | true =>
    simp only [inK,Bool.and_eq_true,decide_eq_true_eq] at hi
    simp only [cond_true]
    rw [wrap_in (by omega) (by omega)]
    simp only [R,SIok]
    exact ⟨_,⟨by omega,by omega⟩,rfl⟩
  ·cases e; exact full_ok _ _
 case xor=>exact ⟨_,full_ok _ _,fun w=>by rw [binOp_int (by simp)]; rfl⟩
 case andNot=>exact ⟨_,full_ok _ _,fun w=>by rw [binOp_int (by simp)]; rfl⟩
 case rem =>
  simp only [cond_eq_ite,Bool.and_eq_true,decide_eq_true_eq] at e
  split at e
  ·rename_i hb
   have hne:¬ b=0:=by omega
   refine ⟨a.tmod b,?_,fun w=>by rw [binOp_int (by simp)]; simp [Op.intDiv,hne]⟩
   split at e
   ·rename_i hc
    cases e
    have ea:a=l1:=by omega
    have eb:b=l2:=by omega
    subst ea
    subst eb
    simp only [R,SIok]
    exact ⟨_,⟨Int.le_refl _,Int.le_refl _⟩,rfl⟩
   split at e
   ·cases e
    have:=tmod_le (a:=a) (b:=b) (by omega) (by omega)
    have:=mn_le h1 (h2 - 1)
    simp only [R,SIok]
    exact ⟨_,⟨by omega,by omega⟩,rfl⟩
   ·cases e
    have:=tmod_abs (a:=a) (b:=b) (by omega)
    simp only [R,SIok]
    exact ⟨_,⟨by omega,by omega⟩,rfl⟩
  ·cases e
 case quo =>
  simp only [cond_eq_ite,Bool.and_eq_true,decide_eq_true_eq] at e
  split at e
  ·rename_i hb
   have hne:¬ b=0:=by omega
   refine ⟨_,?_,fun w=>by rw [binOp_int (by simp)]; simp [Op.intDiv,hne]; rfl⟩
   split at e
   ·rename_i hc
    cases e
    have ea:a=l1:=by omega
    have eb:b=l2:=by omega
    subst ea
    subst eb
    exact mk_ok (Int.le_refl _) (Int.le_refl _)
   split at e
   ·cases e
    have h3:0≤a.tdiv b:=Int.tdiv_nonneg (by omega) (by omega)
    have h4:a.tdiv b≤a:=Int.tdiv_le_self _ (by omega)
    exact mk_ok (by omega) (by omega)
   ·cases e; exact full_ok _ _
  ·cases e
theorem shift_ok {P:Program} {op:BinOp} {k j:IntKind} {l1 h1 l2 h2 a b:Int} {r:SV} (ho:op=.shl∨op=.shr) (e:shiftS op k l1 h1 l2 h2=some r) (a1:l1≤a) (a2:a≤h1) (b1:l2≤b) (b2:b≤h2)
  (t:Nat) (x y:Operand) :
  ∃ z,R E r (.int k z)∧∀ w,(do eqGuard op t x y (.int k a) (.int j b); binOp op t (.int k a) (.int j b):Sem Value).run P w=.ok (.int k z) w:=by
 simp only [shiftS,cond_eq_ite,Bool.and_eq_true,decide_eq_true_eq] at e
 split at e
 ·rename_i hb0
  have hneg:¬ b<0:=by omega
  rcases ho with rfl | rfl
  ·refine ⟨_,?_,fun w=>by rw [binOp_shift (.inl rfl)]; simp [Op.shift,hneg]; rfl⟩
   simp only at e
   split at e
   ·rename_i hc
    obtain ⟨hc1,hc2,hc3⟩:=hc
    cases e
    have eb:b=l2:=by omega
    subst eb
    have hlt:b.toNat<k.bits:=by rw [kbits_eq]; exact Nat.le_of_ble_eq_true hc3
    rw [Nat.min_eq_left (by omega),← pow2_eq]
    have hp:=pow2_pos b.toNat
    exact mk_ok (Int.mul_le_mul_of_nonneg_right a1 (by omega)) (Int.mul_le_mul_of_nonneg_right a2 (by omega))
   ·cases e; exact full_ok _ _
  ·refine ⟨_,?_,fun w=>by rw [binOp_shift (.inr rfl)]; simp [Op.shift,hneg]; rfl⟩
   simp only at e
   split at e
   ·rename_i hc0
    have hp:=pow2_pos (min b.toNat k.bits)
    rw [← pow2_eq,Int.fdiv_eq_ediv_of_nonneg _ (by omega)]
    have q1:0≤a / pow2 (min b.toNat k.bits):=Int.ediv_nonneg (by omega) (by omega)
    have q2:a / pow2 (min b.toNat k.bits)≤a:=Int.ediv_le_self _ (by omega)
    split at e
    ·rename_i hc
     obtain ⟨hc1,hc3⟩:=hc
     cases e
     have eb:b=l2:=by omega
     subst eb
     have hlt:b.toNat<k.bits:=by rw [kbits_eq]; exact Nat.le_of_ble_eq_true hc3
     rw [Nat.min_eq_left (by omega)] at *
     simp only [R,SIok]
     exact ⟨_,⟨Int.ediv_le_ediv (by omega) a1,Int.ediv_le_ediv (by omega) a2⟩,rfl⟩
    ·cases e
     simp only [R,SIok]
     exact ⟨_,⟨by omega,by omega⟩,rfl⟩
   ·cases e
 ·cases e
theorem cmpOf_ok {P:Program} {op:BinOp} {c:Cmp} (h:cmpOf op=some c) (t:Nat) (x y:Operand) (k:IntKind) (a b:Int) (w:World) :
  (do eqGuard op t x y (.int k a) (.int k b); binOp op t (.int k a) (.int k b):Sem Value).run P w=.ok (.bool (cmpZ c a b)) w:=by
 cases op <;> simp only [cmpOf] at h <;> cases h <;> rw [binOp_int (by simp)] <;> simp [Op.intCmp,cmpZ]
 all_goals (rw [Bool.eq_iff_iff]; simp)
end SE
end
section
namespace SE
variable {X:Px} {own0:Nat→Prop} {w0 w:World} {E:Env} {st:St}
def Yl (P:Program) (s:Sem Next) (x:Value):Prop :=
 (∀ w,s.run P w=.ok (.value x) w)∨∃ g args,(∀ w,s.run P w=.ok (.enter g args) w)∧∀ w,Calls P g args w (fun e w'=>e=.returned x∧w'=w)
theorem und_run {P:Program} {t:TypeId} {d:TypeDesc} (h:P.underlying t=some d) (w:World):(underlying t).run P w=.ok d w:=run_underlying h w
theorem size_run {P:Program} {t:TypeId} {i:TypeInfo} (h:P.info? t=some i) (w:World):(sizeOf t).run P w=.ok i.size w:=by simp [sizeOf,typeInfo,h]
theorem zero_run {P:Program} {t:TypeId} {i:TypeInfo} {z:Value} (h:P.info? t=some i) (hz:i.zero=some z) (w:World):(zeroValue t).run P w=.ok z w:=by simp [zeroValue,typeInfo,h,hz]
theorem isAgg_run {P:Program} {t:TypeId} {d:TypeDesc} {u:UD} (h:P.underlying t=some d) (hu:UDok u d) (w:World):(isAgg t).run P w=.ok (isAggT u) w:=by
 unfold isAgg
 rw [Sem.run_bind,und_run h w]
 cases u <;> cases d <;> simp [UDok] at hu <;> simp [isAggT]
theorem add_none (n off k:Nat):(⟨n,off,none⟩:Addr).add k=⟨n,off+k,none⟩:=by
 unfold Addr.add
 split
 ·subst_vars; rfl
 ·rfl
theorem add_spot {x:Addr} (h:x.spot=none) (k:Nat):x.add k=⟨x.block,x.off+k,none⟩:=by
 obtain ⟨b,o,s⟩:=x
 simp only at h
 subst h
 exact add_none b o k
theorem part_ok (hT:TabOk X) {t:Nat} {y:TY} (hy:X.T.ty.get t=some y) {l:List SV} {cs:Array Value} {off:Nat} {v:SV} (e:partS y l off=some v) (h:RL E l cs.toList) :
  ∃ x,R E v x∧∀ w,(part t cs off).run X.P w=.ok x w:=by
 obtain ⟨d,i,hd,hi,hs,hb,hu,ha,hl,z,hz,hzr⟩:=hT.ty t y hy
 unfold partS at e
 cases hagg:isAggT y.und with
 | true =>
  rw [hagg] at e
  simp only [cond_true] at e
  split at e
  ·rename_i m hm
   cases e
   have hc:=RL_cut h hm
   refine ⟨.agg (cs.extract off (off+y.size)),?_,fun w=>?_⟩
   ·simp only [R]
    refine ⟨_,rfl,?_⟩
    rw [Array.toList_extract,List.extract_eq_take_drop,Nat.add_sub_cancel_left]
    exact hc.1
   ·simp [part,isAgg_run hd hu,hagg,size_run hi,hs]
  ·cases e
 | false =>
  rw [hagg] at e
  simp only [cond_false] at e
  obtain ⟨x,hx,hr⟩:=RL_nth h e
  refine ⟨x,hr,fun w=>?_⟩
  have:cs[off]?=some x:=by simpa using hx
  simp [part,isAgg_run hd hu,hagg,this]
theorem Yl.val {P:Program} {s:Sem Value} {x:Value} (h:∀ w,s.run P w=.ok x w):Yl P (do pure (.value (← s))) x:=.inl fun w=>by simp [h w]
theorem fieldS_ok (hT:TabOk X) {t f:Nat} {y:TY} {o:Nat} (e:fieldS X.T t f=some (y,o)) :
  ∃ fs fd,X.P.underlying t=some (.struct fs)∧fs[f]?=some fd∧fd.offset=o∧X.T.ty.get fd.type=some y:=by
 unfold fieldS at e
 cases hty:X.T.ty.get t with
 | none=>simp only [hty] at e; cases e
 | some ty =>
  obtain ⟨d,i,hd,hi,hs,hb,hu,ha,hl,z,hz,hzr⟩:=hT.ty t ty hty
  simp only [hty] at e
  cases hfs:ty.und <;> simp only [hfs] at e <;> try cases e
  rename_i fs
  rw [hfs] at hu
  cases hn:nth fs f with
  | none=>simp only [hn] at e; cases e
  | some p =>
   obtain ⟨ft,off⟩:=p
   simp only [hn] at e
   cases hy':X.T.ty.get ft with
   | none=>simp only [hy'] at e; cases e
   | some y' =>
    simp only [hy',Option.some.injEq,Prod.mk.injEq] at e
    obtain ⟨rfl,rfl⟩:=e
    cases d <;> simp [UDok] at hu
    rename_i gs
    subst hu
    have this:∀ (l:List Field) (n:Nat),nth (l.map fun f=>(f.type,f.offset)) n=some (ft,off)→∃ fd,l[n]?=some fd∧fd.type=ft∧fd.offset=off:=by
     intro l
     induction l with
     | nil=>intro n h; simp [nth] at h
     | cons a l ih =>
      intro n h
      cases n with
      | zero=>simp [nth] at h; exact ⟨a,rfl,h.1,h.2⟩
      | succ n=>simp only [List.map_cons,nth] at h; simpa using ih n h
    obtain ⟨fd,h1,h2,h3⟩:=this gs.toList f hn
    exact ⟨gs,fd,hd,by simpa using h1,h3,by rw [h2]; exact hy'⟩
theorem setAll (off:Nat):∀ (vs:List Value) (k:Nat) (arr:Array Value),off+k+vs.length≤arr.size →
  ((vs.zipIdx k).foldl (fun cs (x:Value×Nat)=>cs.setIfInBounds (off+x.2) x.1) arr).toList=arr.toList.take (off+k)++vs++arr.toList.drop (off+k+vs.length)
 | [],k,arr,h=>by simp
 | v::vs,k,arr,h=>by
  simp only [List.length_cons] at h
  simp only [List.zipIdx_cons,List.foldl_cons]
  rw [setAll off vs (k+1) _ (by simp; omega)]
  simp only [Array.toList_setIfInBounds]
  have hlt:off+k<arr.toList.length:=by simp; omega
  apply List.ext_getElem?
  intro j
  simp only [List.append_assoc,List.getElem?_append,List.length_take,List.length_set,List.length_cons,List.getElem?_take,List.getElem?_drop,List.getElem?_set,List.cons_append,List.nil_append]
  have e1:min (off+(k+1)) arr.toList.length=off+k+1:=by omega
  have e2:min (off+k) arr.toList.length=off+k:=by omega
  rw [e1,e2]
  by_cases h1:j<off+k
  ·have h2:j<off+k+1:=by omega
   have h3:¬ (off+k=j):=by omega
   simp [h1,h2,h3,show j<off+(k+1) by omega]
  ·by_cases h4:j=off+k
   ·subst h4
    simp [show off+k<off+(k+1) by omega]
    omega
   ·have h5:¬ (j<off+k+1):=by omega
    have h6:j - (off+k)=(j - (off+k+1))+1:=by omega
    simp only [h1,h5,if_false,h6,List.getElem?_cons_succ,List.length_cons]
    by_cases h7:j - (off+k+1)<vs.length
    ·simp [h7,List.getElem?_append_left h7]
    ·rw [List.getElem?_append_right (by omega),List.getElem?_drop]
     have h8:off+(k+1)+vs.length+(j - (off+k+1) - vs.length)=j:=by omega
     have h9:off+k+(vs.length+1)+(j - (off+k+1) - vs.length)=j:=by omega
     have h10:¬ (off+k=j):=by omega
     simp [h7,h8,h9,h10]
theorem okCells_RL {x:SV} {v:Value} (h:R E x v) (hx:okCells x=true):RL E (cellsOf x) v.cells.toList:=by
 cases x
 case agg l=>simp only [R] at h; obtain ⟨cs,rfl,hl⟩:=h; exact hl
 all_goals
  simp only [okCells] at hx
  have:=cells_of_cell (oneCell_of h hx)
  simp only [cellsOf]
  rw [this]
  exact RL_cons.2 ⟨h,by simp [RL]⟩
def RP (E:Env):List (Nat×SV)→List (Nat×Value)→Prop
 | [],vs=>vs=[]
 | (i,x)::l,vs=>∃ v vs',vs=(i,v)::vs'∧R E x v∧RP E l vs'
theorem fill_ok {place:Nat→Option (Nat×Nat)} {placeM:Nat→Option (Nat×Nat)} (hp:∀ i p,place i=some p→placeM i=some p) :
  ∀ {ps:List (Nat×SV)} {pv:List (Nat×Value)} {cs cs':List SV} {arr:Array Value},RP E ps pv→RL E cs arr.toList→fillS place cs ps=some cs' →
  ∃ arr',Instr.fill placeM arr pv=some arr'∧RL E cs' arr'.toList
 | [],pv,cs,cs',arr,hr,hc,e=>by
  simp only [RP] at hr
  subst hr
  simp only [fillS] at e
  cases e
  exact ⟨arr,rfl,hc⟩
 | (i,x)::ps,pv,cs,cs',arr,hr,hc,e=>by
  simp only [RP] at hr
  obtain ⟨v,vs',rfl,hx,hr'⟩:=hr
  simp only [fillS] at e
  split at e
  ·cases e
  ·rename_i off size hpl
   simp only [cond_eq_ite,Bool.and_eq_true] at e
   split at e
   ·rename_i hh
    split at e
    ·rename_i cs1 hs
     have hcells:=okCells_RL hx hh.1
     have hlen:=RL_length hcells
     have hsz:=nbeq hh.2
     have hsp:=RL_splice hc hcells hs
     have hset:=setAll off v.cells.toList 0 arr (by have:=hsp.2; simp at this ⊢; omega)
     have hz:(v.cells.zipIdx.foldl (fun cs (x:Value×Nat)=>cs.setIfInBounds (off+x.2) x.1) arr)=(v.cells.toList.zipIdx.foldl (fun cs (x:Value×Nat)=>cs.setIfInBounds (off+x.2) x.1) arr):=by
      rw [← Array.foldl_toList]
      simp
     obtain ⟨arr',h1,h2⟩:=fill_ok hp (arr:=(v.cells.zipIdx.foldl (fun cs (x:Value×Nat)=>cs.setIfInBounds (off+x.2) x.1) arr)) hr'
      (by rw [hz,hset]; simpa using hsp.1) e
     refine ⟨arr',?_,h2⟩
     simp only [Instr.fill,hp _ _ hpl]
     rw [if_neg]
     ·exact h1
     ·have:=hsp.2
      simp at this hlen ⊢
      omega
    ·cases e
   ·cases e
theorem mapM_run' {P:Program} {α β:Type} (f:α→Sem β) (g:α→β) (w:World):∀ l:List α,(∀ x∈l,∀ w,(f x).run P w=.ok (g x) w)→(l.mapM f).run P w=.ok (l.map g) w
 | [],_=>by simp
 | x::l,h=>by simp [List.mapM_cons,h x (by simp),mapM_run' f g w l fun y hy=>h y (by simp [hy])]
theorem knownF_ok {T:Tb}:∀ {fs:List (Nat×Nat)},knownF T fs=true→∀ f∈fs,∃ y,T.ty.get f.1=some y
 | [],_,f,hf=>by cases hf
 | (t,o)::l,h,f,hf=>by
  simp only [knownF,Bool.and_eq_true] at h
  rcases List.mem_cons.1 hf with rfl | hf
  ·exact Option.isSome_iff_exists.1 h.1
  ·exact knownF_ok h.2 f hf
theorem build_ok (hT:TabOk X) {t:Nat} {ty:TY} (hty:X.T.ty.get t=some ty) (hk:knownT X.T ty.und=true) {ps:List (Nat×SV)} {pv:Array (Nat×Value)} {cs:List SV}
  (hr:RP E ps pv.toList) (e:fillS (placeS X.T ty) ty.zero ps=some cs):∃ x,R E (.agg cs) x∧∀ w,(Instr.build t pv).run X.P w=.ok x w:=by
 obtain ⟨d,i,hd,hi,hs,hb,hu,ha,hl,z,hz,hzr⟩:=hT.ty t ty hty
 cases hund:ty.und <;> rw [hund] at hk hu <;> simp only [knownT,Bool.false_eq_true] at hk
 case arr n el =>
  cases d <;> simp [UDok] at hu
  obtain ⟨rfl,rfl⟩:=hu
  obtain ⟨y,hy⟩:=Option.isSome_iff_exists.1 hk
  obtain ⟨d',i',hd',hi',hs',_⟩:=hT.ty _ y hy
  obtain ⟨arr',h1,h2⟩:=fill_ok (E:=E) (placeM:=fun j=>some (j*i'.size,i'.size)) (by
   intro j p hp
   simp only [placeS,hund,hy] at hp
   rw [hs']
   exact hp) hr (hzr E) e
  refine ⟨.agg arr',by simp only [R]; exact ⟨_,rfl,h2⟩,fun w=>?_⟩
  simp [Instr.build,zero_run hi hz,und_run hd,size_run hi',h1]
 case str fs =>
  cases d <;> simp [UDok] at hu
  rename_i gs
  subst hu
  have hkn:=knownF_ok hk
  let sz:Field→Nat:=fun f=>match X.T.ty.get f.type with | some y=>y.size | none=>0
  have hm:∀ w,(gs.mapM fun f=>do pure (f.offset,← sizeOf f.type):Sem (Array (Nat×Nat))).run X.P w=.ok (gs.map fun f=>(f.offset,sz f)) w:=by
   intro w
   rw [Array.mapM_eq_mapM_toList,Sem.run_map,mapM_run' _ (fun f=>(f.offset,sz f)) w gs.toList]
   ·simp only [Result.andThen_ok]
    congr 1
    apply Array.ext'
    simp
   ·intro f hf w
    obtain ⟨y,hy⟩:=hkn (f.type,f.offset) (by simp at hf ⊢; exact ⟨f,hf,rfl,rfl⟩)
    obtain ⟨d',i',hd',hi',hs',_⟩:=hT.ty _ y hy
    simp only at hy
    simp [size_run hi',sz,hy,hs']
  obtain ⟨arr',h1,h2⟩:=fill_ok (E:=E) (placeM:=fun j=>(gs.map fun f=>(f.offset,sz f))[j]?) (by
   intro j p hp
   simp only [placeS,hund] at hp
   split at hp
   ·rename_i t' off hn
    split at hp
    ·rename_i y hy
     cases hp
     have:∀ (l:List Field) (n:Nat),nth (l.map fun f=>(f.type,f.offset)) n=some (t',off)→(l.map fun f=>(f.offset,sz f))[n]?=some (off,y.size):=by
      intro l
      induction l with
      | nil=>intro n h; simp [nth] at h
      | cons a l ih =>
       intro n h
       cases n with
       | zero=>simp [nth] at h; obtain ⟨h1,h2⟩:=h; simp [sz,h1,h2,hy]
       | succ n=>simp only [List.map_cons,nth] at h; simpa using ih n h
     have:=this gs.toList j hn
     simpa using this
    ·cases hp
   ·cases hp) hr (hzr E) e
  refine ⟨.agg arr',by simp only [R]; exact ⟨_,rfl,h2⟩,fun w=>?_⟩
  simp only [Instr.build,Sem.run_bind,zero_run hi hz,und_run hd,hm,Result.andThen_ok]
  rw [h1]
  rfl
end SE
end
section
namespace SE
variable {X:Px} {own0:Nat→Prop} {w0 w:World} {E:Env} {st:St} {tm:TT} {a:Act}
structure PkOk (X:Px):Prop where
 fn:∀ g,X.T.pkB g=true→∃ fn,X.T.fn.get g=some fn
 ok:∀ g args st v,X.T.pkB g=true→X.T.pk g args st=some v→∀ own0 w0 E w,G X own0 w0 E st w→∀ vals:Array Value,RL E args vals.toList →
  ∃ x,R E v x∧∀ w,Calls X.P g vals w (fun e w'=>e=.returned x∧w'=w)
theorem call_run (hT:TabOk X) {g:Nat} {fn:Func} (h:X.T.fn.get g=some fn) (args:Array Value) (w:World):(callFunc g args).run X.P w=.ok (.enter g args) w:=by
 obtain ⟨h1,h2,h3⟩:=hT.fn g fn h
 have h2':¬ fn.name = "runtime.NumGoroutine" := by simpa using h2
 have h3':¬ fn.body=none:=fun hh=>by rw [hh] at h3; simp at h3
 simp [callFunc,h1,h2',h3']
theorem callv_run (hT:TabOk X) {g:Nat} {fn:Func} (h:X.T.fn.get g=some fn) (ρ:Operand→Value) (f:Operand) (args:Array Operand) (ats:Array TypeId) (ty:TypeId) (fs cs:Array Value)
  (hf:ρ f=.func (.func g) fs cs) (w:World) :
  (do let d←resolve ρ ⟨.value f,args,ats⟩ ty; invoke d.target d.args:Sem Next).run X.P w=.ok (.enter g (fs++args.map ρ++cs)) w:=by
 simp [resolve,hf,Deferred.ofValue,invoke,call_run hT h]
theorem evalP (h:FOk E tm a):∀ ps:List (Nat×Operand),RP E (rhoP tm ps) (ps.map fun p=>(p.1,a.eval p.2))
 | []=>by simp [rhoP,RP]
 | (i,x)::l=>by simp only [rhoP,List.map_cons,RP]; exact ⟨_,_,rfl,h.eval x,evalP h l⟩
def vNil:Value→Bool
 | .pointer none | .nilFunc | .nilIface=>true
 | .slice none _ _=>true
 | _=>false
theorem nilB_ok {x:SV} {v:Value} {b:Bool} (e:nilB x=some b) (h:R E x v):vNil v=b:=by
 cases x <;> simp only [nilB] at e <;> cases e <;> simp only [R] at h
 case ptr=>obtain ⟨n,_,rfl⟩:=h; rfl
 case nilp=>rw [h]; rfl
 case sp=>obtain ⟨x,l,c,_,_,rfl⟩:=h; rfl
 case sq=>obtain ⟨x,l,c,i,_,_,_,rfl⟩:=h; rfl
 case gp=>rw [h]; rfl
 case slc=>obtain ⟨n,_,rfl⟩:=h; rfl
 case nils=>rw [h]; rfl
 case func=>obtain ⟨x,l,rfl,_⟩:=h; rfl
 case nilf=>rw [h]; rfl
 case iface=>obtain ⟨x,rfl,_⟩:=h; rfl
 case nili=>rw [h]; rfl
theorem equal_ptr {P:Program} {t e:TypeId} (hu:P.underlying t=some (.pointer e)) (p:Option Addr) (w:World):(Op.equal t (.pointer p) (.pointer none)).run P w=.ok p.isNone w:=by
 have h:Op.equal t (.pointer p) (.pointer none)=Op.equalIn (9999+1) t (.pointer p) (.pointer none):=rfl
 rw [h,Op.equalIn,Sem.run_bind,und_run hu]
 cases p <;> rfl
theorem ptr_nil {P:Program} {t e:TypeId} (hu:P.underlying t=some (.pointer e)) {v:Value} {b:Bool} {y:SV} {u:Value} {x:SV} (hx:R E x v) (hb:nilB x=some b)
  (op:BinOp) (ho:op=.eql∨op=.neq) (c d:Operand) (hp:∃ p,v=.pointer p) (hq:u=.pointer none) (w:World) :
  (do eqGuard op t c d v u; binOp op t v u:Sem Value).run P w=.ok (.bool (if op=.eql then b else !b)) w:=by
 have hb':=nilB_ok hb hx
 obtain ⟨p,rfl⟩:=hp
 subst hq
 rcases ho with rfl | rfl <;> cases p <;> simp [vNil] at hb' <;> subst hb' <;> simp [eqGuard,binOp,equal_ptr hu]
theorem ptrT {x:SV} {v:Value} {b:Bool} (hb:nilB x=some b) (h:R E x v) (hx:isPt x=true):∃ p,v=.pointer p:=by
 cases x <;> simp [isPt] at hx <;> simp only [R] at h
 case ptr=>obtain ⟨n,_,rfl⟩:=h; exact ⟨_,rfl⟩
 case nilp=>exact ⟨_,h⟩
 case sp=>obtain ⟨x,l,c,_,_,rfl⟩:=h; exact ⟨_,rfl⟩
 case sq=>obtain ⟨x,l,c,i,_,_,_,rfl⟩:=h; exact ⟨_,rfl⟩
 case gp=>exact ⟨_,h⟩
theorem eqOf_ok {op:BinOp} {q:Bool} (h:eqOf op=some q):(op=.eql∨op=.neq)∧∀ b,(if op=.eql then b else !b)=(bif q then b else !b):=by
 cases op <;> simp only [eqOf] at h <;> cases h
 ·exact ⟨.inl rfl,fun b=>rfl⟩
 ·exact ⟨.inr rfl,fun b=>rfl⟩
theorem binQ_ok (hT:TabOk X) {op:BinOp} {q:Bool} (hq:eqOf op=some q) {t:Nat} {x y r:SV} {u v:Value} (e:binQ X.T q t x y=some r) (hx:R E x u) (hy:R E y v) (c d:Operand) :
  ∃ z,R E r z∧∀ w,(do eqGuard op t c d u v; binOp op t u v:Sem Value).run X.P w=.ok z w:=by
 obtain ⟨ho,hoq⟩:=eqOf_ok hq
 unfold binQ at e
 cases hty:X.T.ty.get t with
 | none=>simp only [hty] at e; cases e
 | some ty =>
  obtain ⟨dd,i,hd,hi,hs',hb,hu,ha,hl,z,hz,hzr⟩:=hT.ty t ty hty
  simp only [hty] at e
  cases hn:isNil y with
  | true =>
   simp only [hn,cond_true] at e
   cases hund:ty.und <;> simp only [hund] at e <;> try cases e
   rename_i el
   cases hnb:nilB x with
   | none=>simp only [hnb] at e; cases e
   | some b =>
    simp only [hnb] at e
    cases hpt:(isPt x&&isPt y) with
    | false=>rw [hpt] at e; cases e
    | true =>
     rw [hpt] at e
     simp only [Bool.and_eq_true] at hpt
     cases e
     rw [hund] at hu
     cases dd <;> simp [UDok] at hu
     subst hu
     have hqv:v=.pointer none:=by
      cases y <;> simp [isNil] at hn <;> simp [isPt] at hpt
      simpa only [R] using hy
     have hp:∃ p,u=.pointer p:=ptrT hnb hx hpt.1
     refine ⟨_,ofB_ok _,fun w=>?_⟩
     rw [ptr_nil (y:=y) hd hx hnb op ho c d hp hqv w,hoq]
  | false =>
   simp only [hn,cond_false] at e
   cases x <;> try (simp only at e; cases e)
   cases y <;> try (simp only at e; cases e)
   rename_i l m
   cases hsh:(X.T.eqt t&&(shapeS ty.zero l&&shapeS ty.zero m)) with
   | false=>simp only [hsh,cond_false] at e; cases e
   | true =>
    simp only [hsh,cond_true] at e
    simp only [Bool.and_eq_true] at hsh
    cases e
    simp only [R] at hx hy
    obtain ⟨xs,rfl,hxs⟩:=hx
    obtain ⟨ys,rfl,hys⟩:=hy
    obtain ⟨b,hb⟩:=hT.eqt t hsh.1 ty hty E l m hsh.2.1 hsh.2.2 xs ys hxs hys op ho c d
    exact ⟨.bool b,by simp only [R]; exact ⟨b,rfl⟩,hb⟩
theorem equal_slice {P:Program} {t e:TypeId} (hu:P.underlying t=some (.slice e)) (p:Option Addr) (n m:Nat) (w:World):(Op.equal t (.slice p n m) (.slice none 0 0)).run P w=.ok p.isNone w:=by
 have h:Op.equal t (.slice p n m) (.slice none 0 0)=Op.equalIn (9999+1) t (.slice p n m) (.slice none 0 0):=rfl
 rw [h,Op.equalIn,Sem.run_bind,und_run hu]
 cases p <;> rfl
theorem slQ_ok (hT:TabOk X) (g:G X own0 w0 E st w) {op:BinOp} {q:Bool} (hq:eqOf op=some q) {t:Nat} {x y r:SV} {u v:Value} (e:slQ X.T st q t x y=some r) (hx:R E x u) (hy:R E y v) (c d:Operand) :
  ∃ z,R E r z∧∀ w,(do eqGuard op t c d u v; binOp op t u v:Sem Value).run X.P w=.ok z w:=by
 obtain ⟨ho,hoq⟩:=eqOf_ok hq
 unfold slQ at e
 cases y <;> simp only at e <;> try cases e
 simp only [R] at hy
 subst hy
 cases hty:X.T.ty.get t with
 | none=>simp only [hty] at e; cases e
 | some ty =>
  obtain ⟨dd,i,hd,hi,hs',hb,hu,ha,hl,z,hz,hzr⟩:=hT.ty t ty hty
  simp only [hty] at e
  cases hund:ty.und <;> simp only [hund] at e <;> try cases e
  rename_i el
  rw [hund] at hu
  cases dd <;> simp [UDok] at hu
  have key:∀ (p:Option Addr) (n m:Nat) w,(do eqGuard op t c d (.slice p n m) (.slice none 0 0); binOp op t (.slice p n m) (.slice none 0 0):Sem Value).run X.P w=.ok (.bool (if op=.eql then p.isNone else !p.isNone)) w:=by
   intro p n m w
   rcases ho with rfl | rfl <;> simp [eqGuard,binOp,equal_slice hd]
  cases x <;> simp only at e <;> try cases e
  case slc.refl b off len cap =>
   simp only [R] at hx
   obtain ⟨n,hn,rfl⟩:=hx
   exact ⟨_,ofB_ok _,fun w=>by rw [key,hoq]; cases q <;> rfl⟩
  case nils.refl =>
   simp only [R] at hx
   subst hx
   exact ⟨_,ofB_ok _,fun w=>by rw [key,hoq]; cases q <;> rfl⟩
  case sl s =>
   simp only [R] at hx
   obtain ⟨base,ln,cp,hE,rfl⟩:=hx
   cases hl:lk st.sls s with
   | none=>simp only [hl] at e; cases e
   | some si =>
    cases si with
    | bytes len =>
     simp only [hl] at e
     cases e
     exact ⟨_,by simp only [R]; exact ⟨_,rfl⟩,fun w=>key _ _ _ w⟩
    | row b len =>
     simp only [hl] at e
     cases e
     obtain ⟨n,cap,h1,h2⟩:=g.sls s _ hl
     rw [hE] at h2
     cases h2
     exact ⟨_,ofB_ok _,fun w=>by rw [key,hoq]; cases q <;> rfl⟩
    | own b nm args=>simp only [hl] at e; cases e
theorem binS_ok (hT:TabOk X) (g:G X own0 w0 E st w) {op:BinOp} {t:Nat} {x y r:SV} {u v:Value} (e:binS X.T st op t x y=some r) (hx:R E x u) (hy:R E y v) (c d:Operand) :
  ∃ z,R E r z∧∀ w,(do eqGuard op t c d u v; binOp op t u v:Sem Value).run X.P w=.ok z w:=by
 unfold binS at e
 have fall:(match eqOf op with
  | some q=>match slQ X.T st q t x y with
   | some r=>some r
   | none=>binQ X.T q t x y
  | none=>none)=some r→∃ z,R E r z∧∀ w,(do eqGuard op t c d u v; binOp op t u v:Sem Value).run X.P w=.ok z w:=by
  intro e
  cases hq:eqOf op with
  | none=>simp only [hq] at e; cases e
  | some q =>
   simp only [hq] at e
   cases hsq:slQ X.T st q t x y with
   | some r'=>simp only [hsq] at e; cases e; exact slQ_ok hT g hq hsq hx hy c d
   | none=>simp only [hsq] at e; exact binQ_ok hT hq e hx hy c d
 cases hr1:rng st x with
 | none=>simp only [hr1] at e; exact fall e
 | some p =>
  cases hr2:rng st y with
  | none=>simp only [hr1,hr2] at e; exact fall e
  | some q =>
   obtain ⟨k,l1,h1⟩:=p
   obtain ⟨j,l2,h2⟩:=q
   simp only [hr1,hr2] at e
   obtain ⟨z1,rfl,b1,b2⟩:=rng_ok g hr1 hx
   obtain ⟨z2,rfl,b3,b4⟩:=rng_ok g hr2 hy
   cases hs:isShift op with
   | true =>
    simp only [hs,cond_true] at e
    have ho:op=.shl∨op=.shr:=by cases op <;> simp [isShift] at hs <;> simp
    obtain ⟨z,hz,hrun⟩:=shift_ok (P:=X.P) (E:=E) ho e b1 b2 b3 b4 t c d
    exact ⟨_,hz,hrun⟩
   | false =>
    simp only [hs,cond_false] at e
    cases hc:cmpOf op with
    | some cm =>
     simp only [hc] at e
     obtain ⟨k',a',b',h1',h2',hr'⟩:=cmpSV_ok g e hx hy
     cases h1'
     cases h2'
     exact ⟨_,hr',fun w=>cmpOf_ok hc t c d k z1 z2 w⟩
    | none =>
     simp only [hc] at e
     cases hk:eqK k j with
     | false=>rw [hk] at e; cases e
     | true =>
      rw [hk] at e
      have:=eqK_iff hk
      subst this
      obtain ⟨z,hz,hrun⟩:=arith_ok (P:=X.P) (E:=E) e b1 b2 b3 b4 t c d
      exact ⟨_,hz,hrun⟩
end SE
end
end Go.Proofs.YtdgejnakakjgfaaGreatDoor
