/- Samples, danger: runs; their summaries. -/
import Derived.Test.YtdgejnakakjgfaaGreatDoorR18
import Derived.Test.YtdgejnakakjgfaaGreatDoorR26
import Derived.KernelRfl
set_option linter.unusedVariables false
set_option linter.unusedSimpArgs false
set_option maxRecDepth 100000
namespace Go.Proofs.YtdgejnakakjgfaaGreatDoor
section
namespace SE
open Go.RowKit
set_option maxHeartbeats 0
variable {pc:Array Value}
theorem give_r:sayR joinT 76 giveM=true:=by decide +kernel
theorem fly_r:sayR joinT 77 flyM=true:=by decide +kernel
theorem over_r:sayR joinT 78 overM=true:=by decide +kernel
theorem samp_r:sampR=true:=by decide +kernel
theorem kSam_ok (hp:PolFit pc):KAll (Xc pc) kSam:=⟨kSmL hp (say_sm hp give_r) namedC true,kSmL hp (say_sm hp fly_r) namedC true,kSmL hp (say_sm hp over_r) namedC true,kScene2_ok hp⟩
theorem samp_sm (hp:PolFit pc):SmOk (Xc pc) 51 sampM:=smL (ks:=kSam) (jn:=joinT) (nb:=false) (L:=300000) (fuel:=60) (named:=namedC) hp (kSam_ok hp) samp_r
theorem hlF_r:sayR joinT 52 hlthF=true:=by decide +kernel
theorem hlA_r:hlRA=true:=by decide +kernel
theorem hlB_r:hlRB=true:=by decide +kernel
theorem hlC_r:allSeqs.all (fun l=>hlRC l)=true:=by decide +kernel
theorem hlD_r:hlRD=true:=by decide +kernel
theorem hl_n:nodupO hlthT.outs=true:=by decide +kernel
theorem code52:codeOf 52=seqs [nthC 0 (codeOf 52),nthC 1 (codeOf 52),nthC 2 (codeOf 52),nthC 3 (codeOf 52)] (.seq (.seq (nthC 0 (nthC 4 (codeOf 52))) (tailC 1 (nthC 4 (codeOf 52)))) (tailC 5 (codeOf 52))):=by kernel_rfl
theorem body52:Tryz.f52.body=some (codeOf 52):=by kernel_rfl
theorem hl_part (hp:PolFit pc):PartOk (Xc pc) 83 (codeOf 52) slH (exX 0 en0 []) [hlD]:=by
 have k2:=kScene2_ok hp
 have hD:PartOk (Xc pc) 83 (tailC 5 (codeOf 52)) slS (upK 3 (ltX 10 en0)) [hlD]:=partsE (ks:=kScene2) (jn:=joinT) (nb:=false) (L:=400000) (fuel:=60) (named:=namedC) hp k2 hlD_r
 have hB:PartOk (Xc pc) 83 (seqs [nthC 0 (nthC 4 (codeOf 52))] (tailC 1 (nthC 4 (codeOf 52)))) slS (upK 1 (exX 4 en0 [])) [hlC]:=by
  refine partsL (ks:=kScene2) (jn:=joinT) (nb:=false) (L:=200000) (fuel:=60) (named:=[]) (ps:=allSeqs.map hlB) hp k2 hlB_r fun p hp'=>?_
  obtain ⟨l,hl,rfl⟩:=List.mem_map.1 hp'
  exact ⟨rfl,partsE (ks:=kScene2) (jn:=joinT) (nb:=false) (L:=300000) (fuel:=60) (named:=namedC) hp k2 (List.all_eq_true.1 hlC_r l hl)⟩
 have hC:PartOk (Xc pc) 83 (.seq (.seq (nthC 0 (nthC 4 (codeOf 52))) (tailC 1 (nthC 4 (codeOf 52)))) (tailC 5 (codeOf 52))) slS (upK 1 (exX 4 en0 [])) [hlD] :=
  PartOk.seq (ps:=[hlC]) hB fun p hp'=>by
   rw [List.mem_singleton] at hp'
   subst hp'
   exact ⟨rfl,hD⟩
 rw [code52]
 refine partsL (ks:=kScene2) (jn:=joinT) (nb:=false) (L:=100000) (fuel:=60) (named:=namedC) (ps:=[hlA]) hp k2 hlA_r fun p hp'=>?_
 rw [List.mem_singleton] at hp'
 subst hp'
 exact ⟨rfl,hC⟩
theorem tm52:tmL 83 slH=fill2 0 [.ptr 4 0,.tt] (mkT 83 10 1 0):=by
 simp only [slH,tmL,setK_eq,fill2]
theorem hlthT_sm (hp:PolFit pc):SmOk (Xc pc) 52 hlthT:=by
 refine sm_part (fn:=Tryz.f52) (ps:=[hlD]) rfl Tryz.func52 body52 rfl hl_n (fun own0 w0 E w a Q g f h=>hl_part hp own0 w0 E w a Q g (by rw [tm52]; exact f) h) fun p hp'=>?_
 rw [List.mem_singleton] at hp'
 subst hp'
 exact ⟨.inl rfl,List.mem_cons_self⟩
theorem kHlth_ok (hp:PolFit pc):KOne (Xc pc) 52 kHlth:=k_sel fun args st kf h=>by
 unfold selH at h
 split at h
 ·cases h; exact kSmL hp (say_sm hp hlF_r) namedC true
 ·cases h; exact kSmL hp (hlthT_sm hp) namedC true
 ·cases h
theorem kCore1_ok (hp:PolFit pc):KAll (Xc pc) kCore1:=⟨kSmL hp (samp_sm hp) namedC true,kHlth_ok hp,kScene2_ok hp⟩
theorem core_sm (hp:PolFit pc) {ks:List (Nat×(List SV→SE.St→Option Out))} (hK:KAll (Xc pc) ks) {gi:Nat} {m:Sm} (e:coreR ks gi m=true):SmOk (Xc pc) gi m :=
 smL (ks:=ks) (jn:=joinT) (nb:=false) (L:=2000000) (fuel:=60) (named:=namedC) hp hK e
theorem now_r:coreR kCore1 18 nowM=true:=by decide +kernel
theorem sample_r:coreR kCore1 34 sampleM=true:=by decide +kernel
theorem healthF_r:coreR kCore1 35 healthF=true:=by decide +kernel
theorem healthT_r:coreR kCore1 35 healthT=true:=by decide +kernel
theorem now_sm (hp:PolFit pc):SmOk (Xc pc) 18 nowM:=core_sm hp (kCore1_ok hp) now_r
theorem sample_sm (hp:PolFit pc):SmOk (Xc pc) 34 sampleM:=core_sm hp (kCore1_ok hp) sample_r
theorem healthF_sm (hp:PolFit pc):SmOk (Xc pc) 35 healthF:=core_sm hp (kCore1_ok hp) healthF_r
theorem healthT_sm (hp:PolFit pc):SmOk (Xc pc) 35 healthT:=core_sm hp (kCore1_ok hp) healthT_r
end SE
end
end Go.Proofs.YtdgejnakakjgfaaGreatDoor
