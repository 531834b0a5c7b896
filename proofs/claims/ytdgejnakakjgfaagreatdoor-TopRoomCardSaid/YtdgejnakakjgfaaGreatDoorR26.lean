/- Who waits, in order: runs. Who waits: a list, a tick: runs. Who waits: contracts of the queue. The contracts that a scene's functions use. What each link says: contracts. -/
import Derived.Test.YtdgejnakakjgfaaGreatDoorR17
import Derived.Test.YtdgejnakakjgfaaGreatDoorR25
import Derived.Test.YtdgejnakakjgfaaGreatDoorR19
import Derived.Test.YtdgejnakakjgfaaGreatDoorR20
import Derived.Test.YtdgejnakakjgfaaGreatDoorR21
import Derived.Test.YtdgejnakakjgfaaGreatDoorR22
import Derived.Test.YtdgejnakakjgfaaGreatDoorR23
import Derived.Test.YtdgejnakakjgfaaGreatDoorR24
set_option linter.unusedVariables false
set_option linter.unusedSimpArgs false
set_option maxRecDepth 100000
namespace Go.Proofs.YtdgejnakakjgfaaGreatDoor
section
namespace SE
open Go.RowKit
set_option maxHeartbeats 0
theorem sort_n:smN 400 54 sortO=true:=by decide +kernel
theorem sort_a:smR 400 tb1 54 sortO seqA=true:=by decide +kernel
theorem sort_1:smR 400 tb1 54 sortO [[1,2,3],[1,3,2]]=true:=by decide +kernel
theorem sort_2:smR 400 tb1 54 sortO [[2,1,3],[2,3,1]]=true:=by decide +kernel
theorem sort_3:smR 400 tb1 54 sortO [[3,1,2],[3,2,1]]=true:=by decide +kernel
end SE
end
section
namespace SE
open Go.RowKit
set_option maxHeartbeats 0
theorem list_r:listR=true:=by decide +kernel
theorem tick_n:nodupO tickO=true:=by decide +kernel
theorem tick_000:tickR 0 0 0=true:=by decide +kernel
theorem tick_001:tickR 0 0 1=true:=by decide +kernel
theorem tick_010:tickR 0 1 0=true:=by decide +kernel
theorem tick_011:tickR 0 1 1=true:=by decide +kernel
theorem tick_100:tickR 1 0 0=true:=by decide +kernel
theorem tick_101:tickR 1 0 1=true:=by decide +kernel
theorem tick_110:tickR 1 1 0=true:=by decide +kernel
theorem tick_111:tickR 1 1 1=true:=by decide +kernel
end SE
end
section
namespace SE
open Go.RowKit
set_option maxHeartbeats 0
variable {X:Px} {pc:Array Value} {own0:Nat→Prop} {w0 w w':World} {E:Env} {st:SE.St}
theorem drop_sm (hp:PolFit pc) {s:Nat} (h:s<5):SmOk (Xc pc) 81 (dropM s):=by
 have e:dropR s=true:=by
  have:s=0∨s=1∨s=2∨s=3∨s=4:=by omega
  rcases this with rfl | rfl | rfl | rfl | rfl
  ·exact allN_ok drop_a 0 (by omega) (by omega)
  ·exact allN_ok drop_a 1 (by omega) (by omega)
  ·exact allN_ok drop_b 2 (by omega) (by omega)
  ·exact allN_ok drop_b 3 (by omega) (by omega)
  ·exact drop_c
 simp only [dropR,Bool.and_eq_true] at e
 exact q_smA hp tb0_ok e.1 e.2.1 e.2.2.1 e.2.2.2
theorem push_sm (hp:PolFit pc) {s:Nat} (h1:1≤s) (h:s≤3):SmOk (Xc pc) 205 (pushM s):=by
 have e:pushR s=true:=by
  have:s=1∨s=2∨s=3:=by omega
  rcases this with rfl | rfl | rfl
  ·exact push_a
  ·exact push_b
  ·exact push_c
 simp only [pushR,Bool.and_eq_true] at e
 exact q_smA hp tb0_ok e.1 e.2.1 e.2.2.1 e.2.2.2
theorem sm_of (hp:PolFit pc) {L gi:Nat} {outs:Out} {tf:List Nat→List (List (Nat×Int×Int))} (htf:TfOk tf) (h0:smN L gi outs=true) (h1:smR L tf gi outs seqA=true) (h2:smR L tf gi outs seqB=true):SmOk (Xc pc) gi ⟨qOwn [] [],headA,outs⟩:=by
 simp only [smN,Bool.and_eq_true] at h0
 exact q_smA hp htf h0.1 h0.2 h1 h2
theorem head_sm (hp:PolFit pc):SmOk (Xc pc) 215 headM:=sm_of hp tb0_ok head_n head_a head_b
theorem sort_b:smR 400 tb1 54 sortO seqB=true:=qAll_app (l:=[[1,2,3],[1,3,2]]) sort_1 (qAll_app (l:=[[2,1,3],[2,3,1]]) sort_2 sort_3)
theorem sort_sm (hp:PolFit pc):SmOk (Xc pc) 54 sortM:=sm_of hp tb1_ok sort_n sort_a sort_b
theorem kQ2_ok (hp:PolFit pc):KAll (Xc pc) kQ2:=⟨kSmL hp (sort_sm hp) [] true,trivial⟩
theorem list_sm (hp:PolFit pc):SmOk (Xc pc) 38 listM:=smL hp (kQ2_ok hp) list_r
theorem tick_run (hp:PolFit pc) {a b c:Int} (e:tickR a b c=true) {E:Env} {vals:Array Value} (g:G (Xc pc) own0 w0 E (qBits a b c) w) (hr:RL E headA vals.toList):Calls Tryz.prog 88 vals w (Outs (Xc pc) own0 w0 E tickO) :=
 q_run hp (kQ2_ok hp) e g hr
theorem tick_sm (hp:PolFit pc):SmOk (Xc pc) 88 tickM:=by
 refine ⟨nodupO_ok tick_n,fun own0 w0 E w vals g hr=>?_⟩
 have g0:G (Xc pc) own0 w0 E (qOwn [] []) w:=g
 have hP:(Xc pc).P=Tryz.prog:=rfl
 rw [hP]
 rcases bits_cases (id:=237) g0 rfl with g1 | g1 <;> rcases bits_cases (id:=238) g1 rfl with g2 | g2 <;> rcases bits_cases (id:=239) g2 rfl with g3 | g3
 ·exact tick_run hp tick_000 g3 hr
 ·exact tick_run hp tick_001 g3 hr
 ·exact tick_run hp tick_010 g3 hr
 ·exact tick_run hp tick_011 g3 hr
 ·exact tick_run hp tick_100 g3 hr
 ·exact tick_run hp tick_101 g3 hr
 ·exact tick_run hp tick_110 g3 hr
 ·exact tick_run hp tick_111 g3 hr
theorem k_drop (hp:PolFit pc):KOne (Xc pc) 81 kDrop':=k_sel fun args st kf h=>by
 unfold dropSel at h
 split at h
 ·split at h
  ·simp only [cond_eq_ite] at h
   split at h
   ·rename_i hb
    cases h
    rw [fN_eq]
    exact kSmL hp (drop_sm hp (Nat.le_of_ble_eq_true hb)) [] true
   ·cases h
  ·cases h
 ·cases h
theorem k_push (hp:PolFit pc):KOne (Xc pc) 205 kPush':=k_sel fun args st kf h=>by
 unfold pushSel at h
 split at h
 ·split at h
  ·simp only [cond_eq_ite,Bool.and_eq_true] at h
   split at h
   ·rename_i hb
    cases h
    rw [fN_eq]
    exact kSmL hp (push_sm hp (Nat.le_of_ble_eq_true hb.1) (Nat.le_of_ble_eq_true hb.2)) [] true
   ·cases h
  ·cases h
 ·cases h
theorem k_head (hp:PolFit pc):KOne (Xc pc) 215 kHead':=kSmL hp (head_sm hp) [] true
theorem k_list (hp:PolFit pc):KOne (Xc pc) 38 kList':=kSmL hp (list_sm hp) [] true
theorem k_qtick (hp:PolFit pc):KOne (Xc pc) 88 kTick':=kSmL hp (tick_sm hp) [] true
end SE
end
section
namespace SE
open Go.RowKit
set_option maxHeartbeats 0
variable {pc:Array Value}
theorem kScene_ok (hp:PolFit pc):KAll (Xc pc) kScene :=
 ⟨kCl_ok rfl rfl (bytes_cl 32) next_cl,k_list hp,k_drop hp,k_qtick hp,k_limit hp,k_msg rfl rfl,k_takes hp,k_tell hp,k_open rfl rfl,k_see,k_set hp,k_hear hp,k_key rfl rfl ints_cl nonce_run,
  k_putReply rfl rfl,k_put rfl,k_key rfl rfl ints8_cl proof_run,k_key rfl rfl ints8_cl key_run,k_may hp,k_goes hp,k_higher hp,k_push hp,k_rank hp,k_head hp,trivial⟩
end SE
end
section
namespace SE
open Go.RowKit
set_option maxHeartbeats 0
variable {pc:Array Value}
theorem start_1:startR 1=true:=by decide +kernel
theorem start_2:startR 2=true:=by decide +kernel
theorem start_3:startR 3=true:=by decide +kernel
theorem kNil:KAll (Xc pc) []:=trivial
theorem start_sm (hp:PolFit pc) {l:Nat} (h1:1≤l) (h:l≤3):SmOk (Xc pc) 107 (startM l):=by
 have:l=1∨l=2∨l=3:=by omega
 rcases this with rfl | rfl | rfl
 ·exact smL hp kNil start_1
 ·exact smL hp kNil start_2
 ·exact smL hp kNil start_3
theorem k_start (hp:PolFit pc):KOne (Xc pc) 107 kStart:=k_sel fun args st kf h=>by
 unfold startSel at h
 split at h
 ·split at h
  ·simp only [cond_eq_ite,Bool.and_eq_true] at h
   split at h
   ·rename_i hb
    cases h
    rw [fN_eq]
    exact kSmL hp (start_sm hp (Nat.le_of_ble_eq_true hb.1) (Nat.le_of_ble_eq_true hb.2)) [] true
   ·cases h
  ·cases h
 ·cases h
theorem kScene2_ok (hp:PolFit pc):KAll (Xc pc) kScene2:=⟨k_start hp,kScene_ok hp⟩
theorem say_sm (hp:PolFit pc) {jn:Nat→Bool} {gi:Nat} {m:Sm} (e:sayR jn gi m=true):SmOk (Xc pc) gi m:=smL hp (kScene2_ok hp) e
theorem three {p:Nat→Prop} (h1:p 1) (h2:p 2) (h3:p 3) {l:Nat} (a:1≤l) (b:l≤3):p l:=by
 have:l=1∨l=2∨l=3:=by omega
 rcases this with rfl | rfl | rfl
 ·exact h1
 ·exact h2
 ·exact h3
theorem reject_sm (hp:PolFit pc) {l:Nat} (a:1≤l) (b:l≤3):SmOk (Xc pc) 67 (rejectM l):=three (p:=fun l=>SmOk (Xc pc) 67 (rejectM l)) (say_sm hp reject_1) (say_sm hp reject_2) (say_sm hp reject_3) a b
theorem hello_sm (hp:PolFit pc) {l:Nat} (a:1≤l) (b:l≤3):SmOk (Xc pc) 69 (helloM l):=three (p:=fun l=>SmOk (Xc pc) 69 (helloM l)) (say_sm hp hello_1) (say_sm hp hello_2) (say_sm hp hello_3) a b
theorem prove_sm (hp:PolFit pc) {l:Nat} (a:1≤l) (b:l≤3):SmOk (Xc pc) 70 (proveM l):=three (p:=fun l=>SmOk (Xc pc) 70 (proveM l)) (say_sm hp prove_1) (say_sm hp prove_2) (say_sm hp prove_3) a b
theorem beat_sm (hp:PolFit pc) {l:Nat} (a:1≤l) (b:l≤3):SmOk (Xc pc) 111 (beatM l):=three (p:=fun l=>SmOk (Xc pc) 111 (beatM l)) (say_sm hp beat_1) (say_sm hp beat_2) (say_sm hp beat_3) a b
theorem bye_sm (hp:PolFit pc) {l:Nat} (a:1≤l) (b:l≤3):SmOk (Xc pc) 112 (byeM l):=three (p:=fun l=>SmOk (Xc pc) 112 (byeM l)) (say_sm hp bye_1) (say_sm hp bye_2) (say_sm hp bye_3) a b
theorem ask_sm (hp:PolFit pc) {l:Nat} (a:1≤l) (b:l≤3):SmOk (Xc pc) 113 (askM l):=three (p:=fun l=>SmOk (Xc pc) 113 (askM l)) (say_sm hp ask_1) (say_sm hp ask_2) (say_sm hp ask_3) a b
theorem offer0_sm (hp:PolFit pc) {l:Nat} (a:1≤l) (b:l≤3):SmOk (Xc pc) 114 (offer0M l):=three (p:=fun l=>SmOk (Xc pc) 114 (offer0M l)) (say_sm hp offer0_1) (say_sm hp offer0_2) (say_sm hp offer0_3) a b
theorem offer1_sm (hp:PolFit pc) {l:Nat} (a:1≤l) (b:l≤3):SmOk (Xc pc) 114 (offer1M l):=three (p:=fun l=>SmOk (Xc pc) 114 (offer1M l)) (say_sm hp offer1_1) (say_sm hp offer1_2) (say_sm hp offer1_3) a b
theorem offer2_sm (hp:PolFit pc) {l:Nat} (a:1≤l) (b:l≤3):SmOk (Xc pc) 114 (offer2M l):=three (p:=fun l=>SmOk (Xc pc) 114 (offer2M l)) (say_sm hp offer2_1) (say_sm hp offer2_2) (say_sm hp offer2_3) a b
theorem offer3_sm (hp:PolFit pc) {l:Nat} (a:1≤l) (b:l≤3):SmOk (Xc pc) 114 (offer3M l):=three (p:=fun l=>SmOk (Xc pc) 114 (offer3M l)) (say_sm hp offer3_1) (say_sm hp offer3_2) (say_sm hp offer3_3) a b
theorem offer4_sm (hp:PolFit pc) {l:Nat} (a:1≤l) (b:l≤3):SmOk (Xc pc) 114 (offer4M l):=three (p:=fun l=>SmOk (Xc pc) 114 (offer4M l)) (say_sm hp offer4_1) (say_sm hp offer4_2) (say_sm hp offer4_3) a b
theorem accept_sm (hp:PolFit pc) {l:Nat} (a:1≤l) (b:l≤3):SmOk (Xc pc) 115 (acceptM l):=three (p:=fun l=>SmOk (Xc pc) 115 (acceptM l)) (say_sm hp accept_1) (say_sm hp accept_2) (say_sm hp accept_3) a b
theorem deny_sm (hp:PolFit pc) {l:Nat} (a:1≤l) (b:l≤3):SmOk (Xc pc) 116 (denyM l):=three (p:=fun l=>SmOk (Xc pc) 116 (denyM l)) (say_sm hp deny_1) (say_sm hp deny_2) (say_sm hp deny_3) a b
theorem release_sm (hp:PolFit pc) {l:Nat} (a:1≤l) (b:l≤3):SmOk (Xc pc) 117 (releaseM l):=three (p:=fun l=>SmOk (Xc pc) 117 (releaseM l)) (say_sm hp release_1) (say_sm hp release_2) (say_sm hp release_3) a b
theorem mode_sm (hp:PolFit pc) {l:Nat} (a:1≤l) (b:l≤3):SmOk (Xc pc) 118 (modeM l):=three (p:=fun l=>SmOk (Xc pc) 118 (modeM l)) (say_sm hp mode_1) (say_sm hp mode_2) (say_sm hp mode_3) a b
theorem point_sm (hp:PolFit pc) {l:Nat} (a:1≤l) (b:l≤3):SmOk (Xc pc) 118 (pointM l):=three (p:=fun l=>SmOk (Xc pc) 118 (pointM l)) (say_sm hp point_1) (say_sm hp point_2) (say_sm hp point_3) a b
end SE
end
end Go.Proofs.YtdgejnakakjgfaaGreatDoor
