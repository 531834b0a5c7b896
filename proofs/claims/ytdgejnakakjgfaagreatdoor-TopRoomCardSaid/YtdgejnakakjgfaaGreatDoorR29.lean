/- A holder that may be lost: the summary. A tick: its summary. -/
import Derived.Test.YtdgejnakakjgfaaGreatDoorR26
import Derived.Test.YtdgejnakakjgfaaGreatDoorR28
import Derived.Test.YtdgejnakakjgfaaGreatDoorR18
import Derived.KernelRfl
set_option linter.unusedVariables false
set_option linter.unusedSimpArgs false
set_option maxRecDepth 100000
namespace Go.Proofs.YtdgejnakakjgfaaGreatDoor
section
namespace SE
open Go.RowKit
set_option maxHeartbeats 0
variable {pc:Array Value}
theorem cl_r:clR=true:=by decide +kernel
theorem lose_1:loseR1 18=true:=by decide +kernel
theorem lose_a:loseR2 18 0 bits3 tok0=true:=by decide +kernel
theorem lose_b:loseR2 18 5 [N 0,A 238,A 239] (tokN 1)=true:=by decide +kernel
theorem lose_c:loseR2 18 5 [A 237,N 0,A 239] (tokN 2)=true:=by decide +kernel
theorem lose_d:loseR2 18 5 [A 237,A 238,N 0] (tokN 3)=true:=by decide +kernel
theorem lose_e:loseR2 18 5 bits3 (tokN 4)=true:=by decide +kernel
theorem lose_f:loseR2 18 6 bits3 (tokN 4)=true:=by decide +kernel
theorem lose_n:nodupO [(.tup [],loseF 18)]=true:=by decide +kernel
theorem cl_sm (hp:PolFit pc):SmOk (Xc pc) 134 clM:=smL6 hp (kScene2_ok hp) cl_r
theorem kScene3_ok (hp:PolFit pc):KAll (Xc pc) kScene3:=⟨kSmL hp (cl_sm hp) [] true,kScene2_ok hp⟩
theorem code89:codeOf 89=seqs [nthC 0 (codeOf 89),nthC 1 (codeOf 89)] (tailC 2 (codeOf 89)):=by kernel_rfl
theorem body89:Tryz.f89.body=some (codeOf 89):=by kernel_rfl
theorem lose_part (hp:PolFit pc):PartOk (Xc pc) 84 (codeOf 89) slS (ltX 18 en0) (loseEnd 18):=by
 rw [code89]
 refine partsL (ks:=kScene3) hp (kScene3_ok hp) lose_1 fun p hp'=>?_
 simp only [loseAll,List.mem_cons,List.not_mem_nil,or_false] at hp'
 rcases hp' with rfl | rfl | rfl | rfl | rfl | rfl
 ·exact ⟨rfl,partL hp (kScene2_ok hp) lose_a⟩
 ·exact ⟨rfl,partL hp (kScene2_ok hp) lose_b⟩
 ·exact ⟨rfl,partL hp (kScene2_ok hp) lose_c⟩
 ·exact ⟨rfl,partL hp (kScene2_ok hp) lose_d⟩
 ·exact ⟨rfl,partL hp (kScene2_ok hp) lose_e⟩
 ·exact ⟨rfl,partL hp (kScene2_ok hp) lose_f⟩
theorem lose_sm (hp:PolFit pc):SmOk (Xc pc) 89 (loseM 18):=by
 refine sm_part (fn:=Tryz.f89) (ps:=loseEnd 18) rfl Tryz.func89 body89 rfl lose_n (fun own0 w0 E w a Q g f h=>lose_part hp own0 w0 E w a Q g f h) fun p hp'=>?_
 simp only [loseEnd,List.mem_cons,List.not_mem_nil,or_false] at hp'
 rcases hp' with rfl | rfl
 ·exact ⟨.inl rfl,List.mem_cons_self⟩
 ·exact ⟨.inr rfl,List.mem_cons_self⟩
end SE
end
section
namespace SE
open Go.RowKit
set_option maxHeartbeats 0
variable {pc:Array Value}
theorem tick_B:tickRB=true:=by decide +kernel
theorem tick_D:tickRD=true:=by decide +kernel
theorem tick_E:tickRE=true:=by decide +kernel
theorem tick_F:tickRF=true:=by decide +kernel
theorem tick_N:nodupO [(.tup [],tkS 11 22)]=true:=by decide +kernel
theorem kScene4_ok (hp:PolFit pc):KAll (Xc pc) kScene4:=⟨kSmL hp (lose_sm hp) namedC true,kScene2_ok hp⟩
theorem code53:codeOf 53=.seq (.seq (nthC 0 (nthC 0 (codeOf 53))) (tailC 1 (nthC 0 (codeOf 53)))) (seqs [nthC 1 (codeOf 53),nthC 2 (codeOf 53),nthC 3 (codeOf 53)] (seqs [nthC 4 (codeOf 53)] (seqs [nthC 5 (codeOf 53)] (tailC 6 (codeOf 53))))):=by kernel_rfl
theorem body53:Tryz.f53.body=some (codeOf 53):=by kernel_rfl
theorem tick1_all:∀ a b c d:Bool,tickR1 a b c d=true
 | false,false,false,false=>tick1_0000
 | false,false,false,true=>tick1_0001
 | false,false,true,false=>tick1_0010
 | false,false,true,true=>tick1_0011
 | false,true,false,false=>tick1_0100
 | false,true,false,true=>tick1_0101
 | false,true,true,false=>tick1_0110
 | false,true,true,true=>tick1_0111
 | true,false,false,false=>tick1_1000
 | true,false,false,true=>tick1_1001
 | true,false,true,false=>tick1_1010
 | true,false,true,true=>tick1_1011
 | true,true,false,false=>tick1_1100
 | true,true,false,true=>tick1_1101
 | true,true,true,false=>tick1_1110
 | true,true,true,true=>tick1_1111
theorem goneAll_mem {p:At} (h:p∈goneAll):∃ a b c d,p=goneA a b c d:=by
 simp only [goneAll,List.mem_flatMap,List.mem_map] at h
 obtain ⟨a,_,b,_,c,_,d,_,h⟩:=h
 exact ⟨a,b,c,d,h.symm⟩
theorem tick_part (hp:PolFit pc):PartOk (Xc pc) 105 (codeOf 53) slS (exX 0 en0 []) (tkA 11 22):=by
 have k2:=kScene2_ok hp
 have h0:PartOk (Xc pc) 105 (seqs [nthC 0 (nthC 0 (codeOf 53))] (tailC 1 (nthC 0 (codeOf 53)))) slS (exX 0 en0 []) (tkA 2 10):=by
  refine partsL hp k2 tick_0 fun p hp'=>?_
  obtain ⟨a,b,c,d,rfl⟩:=goneAll_mem hp'
  exact ⟨rfl,partsE hp k2 (tick1_all a b c d)⟩
 have one:∀ {c:Code} {k:Nat} {n:Int},PartOk (Xc pc) 105 c slS (tkS k n) (tkA 11 22)→∀ p∈tkA k n,p.x=.n∧PartOk (Xc pc) 105 c p.sl p.S (tkA 11 22):=fun {c k n} h p hp'=>by
  rw [tkA,List.mem_singleton] at hp'
  subst hp'
  exact ⟨rfl,h⟩
 have hF:PartOk (Xc pc) 105 (tailC 6 (codeOf 53)) slS (tkS 10 22) (tkA 11 22):=partsE (ks:=kScene2) (jn:=joinT) (nb:=false) (L:=1100000) (fuel:=60) (named:=namedC) hp k2 tick_F
 have hE:PartOk (Xc pc) 105 (seqs [nthC 5 (codeOf 53)] (tailC 6 (codeOf 53))) slS (tkS 4 18) (tkA 11 22):=partsL (ks:=kScene4) (jn:=joinT) (nb:=false) (L:=1000000) (fuel:=60) (named:=namedC) (ps:=tkA 10 22) hp (kScene4_ok hp) tick_E (one hF)
 have hD:PartOk (Xc pc) 105 (seqs [nthC 4 (codeOf 53)] (seqs [nthC 5 (codeOf 53)] (tailC 6 (codeOf 53)))) slS (tkS 3 12) (tkA 11 22):=partsL (ks:=kScene2) (jn:=joinT) (nb:=false) (L:=400000) (fuel:=60) (named:=namedC) (ps:=tkA 4 18) hp k2 tick_D (one hE)
 have hB:PartOk (Xc pc) 105 (seqs [nthC 1 (codeOf 53),nthC 2 (codeOf 53),nthC 3 (codeOf 53)] (seqs [nthC 4 (codeOf 53)] (seqs [nthC 5 (codeOf 53)] (tailC 6 (codeOf 53))))) slS (tkS 2 10) (tkA 11 22) :=
  partsL (ks:=kScene2) (jn:=joinT) (nb:=false) (L:=300000) (fuel:=60) (named:=namedC) (ps:=tkA 3 12) hp k2 tick_B (one hD)
 rw [code53]
 exact PartOk.seq (ps:=tkA 2 10) h0 (one hB)
def tick53M:Sm:=⟨exX 0 en0 [],[.ptr 4 0],[(.tup [],tkS 11 22)]⟩
theorem tick53_sm (hp:PolFit pc):SmOk (Xc pc) 53 tick53M:=by
 refine sm_part (fn:=Tryz.f53) (ps:=tkA 11 22) rfl Tryz.func53 body53 rfl tick_N (fun own0 w0 E w a Q g f h=>tick_part hp own0 w0 E w a Q g f h) fun p hp'=>?_
 rw [tkA,List.mem_singleton] at hp'
 subst hp'
 exact ⟨.inl rfl,List.mem_cons_self⟩
end SE
end
end Go.Proofs.YtdgejnakakjgfaaGreatDoor
