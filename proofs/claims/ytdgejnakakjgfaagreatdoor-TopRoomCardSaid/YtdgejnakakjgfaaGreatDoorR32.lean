/- An item of link 3: runs. What a link says: its contracts; an item's summary. An item of a link: its summary. -/
import Derived.Test.YtdgejnakakjgfaaGreatDoorR18
import Derived.Test.YtdgejnakakjgfaaGreatDoorR26
import Derived.Test.YtdgejnakakjgfaaGreatDoorR30
import Derived.Test.YtdgejnakakjgfaaGreatDoorR31
import Derived.KernelRfl
set_option linter.unusedVariables false
set_option linter.unusedSimpArgs false
set_option maxRecDepth 100000
namespace Go.Proofs.YtdgejnakakjgfaaGreatDoor
section
namespace SE
open Go.RowKit
set_option maxHeartbeats 0
theorem it1_3:itR1 3=true:=by decide +kernel
theorem itN_3:itR2 3 (takeN 3)=true:=by decide +kernel
theorem itK3_3:itR2 3 (takeK 3 3 (U 0 4))=true:=by decide +kernel
theorem itK4_3:itR2 3 (takeK 3 4 (U 0 4))=true:=by decide +kernel
theorem itK5_3:itR2 3 (takeK 3 5 (U 0 4))=true:=by decide +kernel
theorem itK7_3:itR2 3 (takeK 3 7 (U 0 4))=true:=by decide +kernel
theorem itK8_3:itR2 3 (takeK 3 8 (U 0 4))=true:=by decide +kernel
theorem itK9_3:itR2 3 (takeK 3 9 (U 0 4))=true:=by decide +kernel
theorem itK10_3:itR2 3 (takeK 3 10 (U 0 4))=true:=by decide +kernel
theorem itK11_3:itR2 3 (takeK 3 11 (U 0 4))=true:=by decide +kernel
theorem itO0_3:itR2 3 (takeK 3 6 (N 0))=true:=by decide +kernel
theorem itO1_3:itR2 3 (takeK 3 6 (N 1))=true:=by decide +kernel
theorem itO2_3:itR2 3 (takeK 3 6 (N 2))=true:=by decide +kernel
theorem itO3_3:itR2 3 (takeK 3 6 (N 3))=true:=by decide +kernel
theorem itO4_3:itR2 3 (takeK 3 6 (N 4))=true:=by decide +kernel
theorem it3_3:itR3 3=true:=by decide +kernel
end SE
end
section
namespace SE
open Go.RowKit
set_option maxHeartbeats 0
variable {pc:Array Value} {own0:Nat→Prop} {w0 w:World} {E:Env} {st:SE.St}
theorem selL_ok {gi:Nat} {m:Nat→Sm} (hp:PolFit pc) (hm:∀ l,1≤l→l≤3→SmOk (Xc pc) gi (m l)) {args:List SV} {st:SE.St} {kf:List SV→SE.St→Option Out} (h:selL m args st=some kf):KOne (Xc pc) gi kf:=by
 unfold selL at h
 split at h
 ·split at h
  ·simp only [cond_eq_ite,Bool.and_eq_true] at h
   split at h
   ·rename_i hb
    cases h
    rw [fN_eq]
    exact kSmL hp (hm _ (Nat.le_of_ble_eq_true hb.1) (Nat.le_of_ble_eq_true hb.2)) namedC true
   ·cases h
  ·cases h
 ·cases h
theorem selN_ok {gi:Nat} {m:Nat→Sm} (hp:PolFit pc) (hm:∀ l,1≤l→l≤3→SmOk (Xc pc) gi (m l)) {args:List SV} {st:SE.St} {kf:List SV→SE.St→Option Out} (h:selN m args st=some kf):KOne (Xc pc) gi kf:=by
 unfold selN at h
 split at h
 ·split at h
  ·simp only [cond_eq_ite,Bool.and_eq_true] at h
   split at h
   ·rename_i hb
    cases h
    rw [fN_eq]
    exact kSmL hp (hm _ (Nat.le_of_ble_eq_true hb.1) (Nat.le_of_ble_eq_true hb.2)) [] true
   ·cases h
  ·cases h
 ·cases h
theorem RL3x {a b c:SV} {vs:List Value} (h:RL E [a,b,c] vs):∃ x y z,vs=[x,y,z]∧R E a x∧R E b y∧R E c z:=by
 match vs,RL_length h with
 | [x,y,z],_ =>
  simp only [RL_cons] at h
  exact ⟨x,y,z,rfl,h.1,h.2.1,h.2.2.1⟩
theorem augF_ok (g:G (Xc pc) own0 w0 E st w):∀ {l:List (Nat×List SV)},(∀ x∈l,∃ vs,RL E x.2 vs∧UFc pc x.1 vs)→∀ x∈augF st l,∃ vs,RL E x.2 vs∧UFc pc x.1 vs
 | [],h,x,hx=>by simp only [augF] at hx; cases hx
 | (k,svs)::l,h,x,hx=>by
  have ih:=augF_ok g (l:=l) fun y hy=>h y (List.mem_cons_of_mem _ hy)
  unfold augF at hx
  split at hx
  ·cases hx
  ·rename_i k' gv i r l' e
   injection e with e1 e2
   injection e1 with e1 e3
   subst e1 e2 e3
   simp only [cond_eq_ite,Bool.and_eq_true] at hx
   split at hx
   ·rename_i hb
    rcases List.mem_cons.1 hx with rfl | hx
    ·have hk:=nbeq hb.1
     subst hk
     obtain ⟨vs,h1,f,i',r',rfl,h2⟩:=h _ List.mem_cons_self
     obtain ⟨x,y,z,e,h3,h4,h5⟩:=RL3x h1
     simp only [List.cons.injEq,and_true] at e
     obtain ⟨rfl,rfl,rfl⟩:=e
     have hne:=excl_ok g hb.2 h3
     refine ⟨[i64 i',i64 r'],RL_cons.2 ⟨h4,RL_cons.2 ⟨h5,by simp [RL]⟩⟩,i',r',rfl,?_⟩
     rcases h2 with h2 | h2
     ·exact absurd h2 hne
     ·exact h2
    ·exact ih x hx
   ·exact ih x hx
  ·rename_i x' l' hne e
   injection e with e1 e2
   subst e2
   exact ih x hx
theorem aug_ok (g:G (Xc pc) own0 w0 E st w):G (Xc pc) own0 w0 E (aug st) w:=by
 refine ⟨g.size,g.os,g.tape,g.output,g.frame,g.heap,g.inj,g.tab,fun id i hl=>?_,g.dom,g.gl,fun x hx=>?_⟩
 ·have:=g.sls id i hl
  cases i <;> exact this
 ·rcases List.mem_append.1 hx with hx | hx
  ·exact augF_ok g g.facts x hx
  ·exact g.facts x hx
theorem kOf_ok {gi:Nat} {sel:List SV→SE.St→Option (List SV→SE.St→Option Out)} (h:∀ args st kf,sel args st=some kf→KOne (Xc pc) gi kf):KOne (Xc pc) gi (kOf' sel):=by
 intro own0 w0 args st l hk E w vals g hr
 unfold kOf' at hk
 simp only at hk
 cases hs:sel args (aug st) with
 | none=>rw [hs] at hk; cases hk
 | some kf =>
  rw [hs] at hk
  exact h _ _ _ hs own0 w0 args (aug st) l hk E w vals (aug_ok g) hr
theorem selO_ok (hp:PolFit pc) {args:List SV} {st:SE.St} {kf:List SV→SE.St→Option Out} (h:selO args st=some kf):KOne (Xc pc) 114 kf:=by
 unfold selO at h
 split at h
 ·split at h
  ·exact selL_ok hp (fun l a b=>offer0_sm hp a b) h
  ·exact selL_ok hp (fun l a b=>offer1_sm hp a b) h
  ·exact selL_ok hp (fun l a b=>offer2_sm hp a b) h
  ·exact selL_ok hp (fun l a b=>offer3_sm hp a b) h
  ·exact selL_ok hp (fun l a b=>offer4_sm hp a b) h
  ·cases h
 ·cases h
theorem selC_ok (hp:PolFit pc) {args:List SV} {st:SE.St} {kf:List SV→SE.St→Option Out} (h:selC args st=some kf):KOne (Xc pc) 118 kf:=by
 unfold selC at h
 split at h
 ·split at h
  ·exact selL_ok hp (fun l a b=>mode_sm hp a b) h
  ·exact selL_ok hp (fun l a b=>point_sm hp a b) h
  ·cases h
 ·cases h
theorem take_1:takeR 1=true:=by decide +kernel
theorem take_2:takeR 2=true:=by decide +kernel
theorem take_3:takeR 3=true:=by decide +kernel
theorem take_sm (hp:PolFit pc) (l:Nat) (a:1≤l) (b:l≤3):SmOk (Xc pc) 71 (takeM l) :=
 three (p:=fun l=>SmOk (Xc pc) 71 (takeM l)) (smL6 hp (kScene2_ok hp) take_1) (smL6 hp (kScene2_ok hp) take_2) (smL6 hp (kScene2_ok hp) take_3) a b
theorem k_take (hp:PolFit pc):KOne (Xc pc) 71 kTake:=k_sel fun args st kf h=>selN_ok hp (take_sm hp) h
theorem kItem_ok (hp:PolFit pc):KAll (Xc pc) kItem :=
 ⟨kOf_ok fun _ _ _ h=>selL_ok hp (fun l a b=>reject_sm hp a b) h,kOf_ok fun _ _ _ h=>selL_ok hp (fun l a b=>hello_sm hp a b) h,kOf_ok fun _ _ _ h=>selL_ok hp (fun l a b=>prove_sm hp a b) h,
  kOf_ok fun _ _ _ h=>selL_ok hp (fun l a b=>beat_sm hp a b) h,kOf_ok fun _ _ _ h=>selL_ok hp (fun l a b=>bye_sm hp a b) h,kOf_ok fun _ _ _ h=>selL_ok hp (fun l a b=>ask_sm hp a b) h,kOf_ok fun _ _ _ h=>selO_ok hp h,
  k_take hp,kOf_ok fun _ _ _ h=>selL_ok hp (fun l a b=>accept_sm hp a b) h,kOf_ok fun _ _ _ h=>selL_ok hp (fun l a b=>deny_sm hp a b) h,kOf_ok fun _ _ _ h=>selL_ok hp (fun l a b=>release_sm hp a b) h,kOf_ok fun _ _ _ h=>selC_ok hp h,kScene2_ok hp⟩
end SE
end
section
namespace SE
open Go.RowKit
set_option maxHeartbeats 0
variable {pc:Array Value}
theorem itD_eq:itD=.seq (nthC 0 itD) (tailC 1 itD):=by kernel_rfl
noncomputable def condO:Code→Operand
 | .cond c _ _=>c
 | _=>.tmp 0
noncomputable def itC1:Code:=tailC 1 (unB (tailC 1 (codeOf 50)))
noncomputable def itC2:Code:=tailC 1 (elseC itC1)
noncomputable def itC3:Code:=tailC 1 (elseC itC2)
theorem code50:codeOf 50=.seq (nthC 0 (codeOf 50)) (.block 0 (.seq (nthC 0 (unB (tailC 1 (codeOf 50)))) (.cond (condO itC1) (thenC itC1) (.seq (nthC 0 (elseC itC1)) (.cond (condO itC2) (thenC itC2) (.seq (nthC 0 (elseC itC2)) (.cond (condO itC3) (thenC itC3) itD))))))):=by kernel_rfl
theorem body50:Tryz.f50.body=some (codeOf 50):=by kernel_rfl
theorem hk50:hkAt itD sk50 (codeOf 50):=by
 rw [code50]
 exact ⟨trivial,trivial,trivial,trivial,trivial,trivial,trivial,rfl⟩
theorem takeAll_cases {l:Nat} {P:At→Prop} {p:At} (h:p∈takeAll l) (hN:P (takeN l)) (h3:P (takeK l 3 (U 0 4))) (h4:P (takeK l 4 (U 0 4))) (h5:P (takeK l 5 (U 0 4))) (h7:P (takeK l 7 (U 0 4))) (h8:P (takeK l 8 (U 0 4))) (h9:P (takeK l 9 (U 0 4)))
  (h10:P (takeK l 10 (U 0 4))) (h11:P (takeK l 11 (U 0 4))) (o0:P (takeK l 6 (N 0))) (o1:P (takeK l 6 (N 1))) (o2:P (takeK l 6 (N 2))) (o3:P (takeK l 6 (N 3))) (o4:P (takeK l 6 (N 4))):P p:=by
 simp only [takeAll,List.map_cons,List.map_nil,List.cons_append,List.nil_append,List.mem_cons,List.not_mem_nil,or_false] at h
 rcases h with rfl | rfl | rfl | rfl | rfl | rfl | rfl | rfl | rfl | rfl | rfl | rfl | rfl | rfl <;> assumption
theorem itA_1:∀ p∈takeAll 1,itR2 1 p=true:=fun p h=>takeAll_cases (P:=fun p=>itR2 1 p=true) h itN_1 itK3_1 itK4_1 itK5_1 itK7_1 itK8_1 itK9_1 itK10_1 itK11_1 itO0_1 itO1_1 itO2_1 itO3_1 itO4_1
theorem itA_2:∀ p∈takeAll 2,itR2 2 p=true:=fun p h=>takeAll_cases (P:=fun p=>itR2 2 p=true) h itN_2 itK3_2 itK4_2 itK5_2 itK7_2 itK8_2 itK9_2 itK10_2 itK11_2 itO0_2 itO1_2 itO2_2 itO3_2 itO4_2
theorem itA_3:∀ p∈takeAll 3,itR2 3 p=true:=fun p h=>takeAll_cases (P:=fun p=>itR2 3 p=true) h itN_3 itK3_3 itK4_3 itK5_3 itK7_3 itK8_3 itK9_3 itK10_3 itK11_3 itO0_3 itO1_3 itO2_3 itO3_3 itO4_3
theorem itD_part (hp:PolFit pc) {l:Nat} (h1:itR1 l=true) (h2:∀ p∈takeAll l,itR2 l p=true):PartOk (Xc pc) 70 itD (slD l) itX itE:=by
 rw [itD_eq]
 exact partsL (ks:=kItem) (cs:=[nthC 0 itD]) hp (kItem_ok hp) h1 fun p hp'=>⟨takeAll_cases (P:=fun p=>p.x=.n) hp' rfl rfl rfl rfl rfl rfl rfl rfl rfl rfl rfl rfl rfl rfl,partsE hp (kItem_ok hp) (h2 p hp')⟩
theorem it_part (hp:PolFit pc) {l:Nat} (h1:itR1 l=true) (h2:∀ p∈takeAll l,itR2 l p=true) (h3:itR3 l=true):PartOk (Xc pc) 70 (codeOf 50) (sl50 l) S50 (itF l) :=
 partK hp (kItem_ok hp) (b:=itB l) (itD_part hp h1 h2) hk50 h3
def args50 (l:Nat):List SV:=[.ptr 4 0,N (Int.ofNat l),.agg [A 298,.sl 25]]
theorem tm50 (l:Nat):tmL 70 (sl50 l)=fill2 0 (args50 l) (mkT 70 10 1 0):=by
 simp only [sl50,args50,tmL,setK_eq,fill2]
def item50M (l:Nat):Sm:=⟨S50,args50 l,[(.tup [],itS 5 en0),(.tup [],itS 5 (enL l))]⟩
theorem it_n1:nodupO (item50M 1).outs=true:=by decide +kernel
theorem it_n2:nodupO (item50M 2).outs=true:=by decide +kernel
theorem it_n3:nodupO (item50M 3).outs=true:=by decide +kernel
theorem it_sm (hp:PolFit pc) {l:Nat} (h1:itR1 l=true) (h2:∀ p∈takeAll l,itR2 l p=true) (h3:itR3 l=true) (hn:nodupO (item50M l).outs=true):SmOk (Xc pc) 50 (item50M l):=by
 refine sm_part (fn:=Tryz.f50) (ps:=itF l) rfl Tryz.func50 body50 rfl hn (fun own0 w0 E w a Q g f h=>it_part hp h1 h2 h3 own0 w0 E w a Q g (by rw [tm50]; exact f) h) fun p hp'=>?_
 simp only [itF,List.mem_cons,List.not_mem_nil,or_false] at hp'
 rcases hp' with rfl | rfl | rfl
 ·exact ⟨.inl rfl,List.mem_cons_self⟩
 ·exact ⟨.inr rfl,List.mem_cons_self⟩
 ·exact ⟨.inl rfl,List.mem_cons_of_mem _ List.mem_cons_self⟩
theorem item50_sm (hp:PolFit pc) (l:Nat) (a:1≤l) (b:l≤3):SmOk (Xc pc) 50 (item50M l) :=
 three (p:=fun l=>SmOk (Xc pc) 50 (item50M l)) (it_sm hp it1_1 itA_1 it3_1 it_n1) (it_sm hp it1_2 itA_2 it3_2 it_n2) (it_sm hp it1_3 itA_3 it3_3 it_n3) a b
end SE
end
end Go.Proofs.YtdgejnakakjgfaaGreatDoor
