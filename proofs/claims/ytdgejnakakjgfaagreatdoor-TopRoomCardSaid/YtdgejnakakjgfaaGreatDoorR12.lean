/- The walk of frame.Next, one theorem for each way through it. Printed by gen_next.py. frame.Next and the reference's Next come to the plain law's 'next'; frame.Put and the reference's to 'put'. frame.Put and the reference's Put come to the plain law's 'put'. Sealed bodies opened, replies: what is looked at. Sealed bodies: runs. -/
import Derived.Test.YtdgejnakakjgfaaGreatDoorR11
set_option linter.unusedVariables false
set_option linter.unusedSimpArgs false
set_option maxRecDepth 100000
namespace Go.Proofs.YtdgejnakakjgfaaGreatDoor
section
open Go.RowKit Crc Fr
set_option maxHeartbeats 4000000 in
theorem next1m (B:Nat) (b off c:Nat) (c0:UInt8) (w:World) (hr:Reads w B 1 (some ⟨b,off,none⟩) 1 ([c0].map bv)) (hB:B≤w.heap.size) (hc:1≤c) (hm:c≤maxLen) (hb:b<w.heap.size)
  (h0:∀ o1 o2,((w.alloc o1).alloc o2).cell? ⟨b,off,none⟩=some (.int .u8 c0.toNat))
  (e0:((c0.toNat:Int) != 165)=false) :
  Calls Tryz.prog 66 #[.slice (some ⟨b,off,none⟩) 1 c] w fun e w'=>e=.returned (.agg #[.int .i64 0,.int .i64 0,.int .i64 0,.slice none 0 0])∧Below w.heap.size w w':=by
 have hr2:=Lib.hid (fun o1 o2=>(hr.alloc hB o1).alloc (B:=B) (by simp; omega) o2)
 have hne:b≠w.heap.size:=by omega
 have hne1:b≠w.heap.size+1:=by omega
 unfold maxLen at hm
 clear hr
 go_enter Tryz.func66,Tryz.ntmps66
 go_wp2
 have hB0:∀ o1 o2,Below w.heap.size w ((w.alloc o1).alloc o2):=fun o1 o2=>((Below.refl w.heap.size w).alloc (Nat.le_refl _) _).alloc (by simp) _
 exact bodyPost_ret (v:=.agg #[.int .i64 0,.int .i64 0,.int .i64 0,.slice none 0 0]) (by simp [results,Tryz.results66,go_sem]) rfl ⟨rfl,hB0 _ _⟩
set_option maxHeartbeats 4000000 in
theorem next1s (B:Nat) (b off c:Nat) (c0:UInt8) (w:World) (hr:Reads w B 1 (some ⟨b,off,none⟩) 1 ([c0].map bv)) (hB:B≤w.heap.size) (hc:1≤c) (hm:c≤maxLen) (hb:b<w.heap.size)
  (h0:∀ o1 o2,((w.alloc o1).alloc o2).cell? ⟨b,off,none⟩=some (.int .u8 c0.toNat))
  (e0:((c0.toNat:Int) != 165)=true) :
  Calls Tryz.prog 66 #[.slice (some ⟨b,off,none⟩) 1 c] w fun e w'=>e=.returned (.agg #[.int .i64 1,.int .i64 (Fr.ahead [c0]:Int),.int .i64 0,.slice none 0 0])∧Below w.heap.size w w':=by
 have hr2:=Lib.hid (fun o1 o2=>(hr.alloc hB o1).alloc (B:=B) (by simp; omega) o2)
 have hne:b≠w.heap.size:=by omega
 have hne1:b≠w.heap.size+1:=by omega
 unfold maxLen at hm
 have HS:=Lib.hid (fun B A n c w hr hB hn=>skip_any B A n c [c0] w hr hB hn)
 generalize (Fr.ahead [c0]:Int)=M at *
 clear hr
 go_enter Tryz.func66,Tryz.ntmps66
 go_wp2_with (first
  | (go_at_call 100; (with_reducible refine (HS.out B _ _ _ _ (hr2.out _ _) (by simp; omega) (by unfold maxLen; omega)).mono ?_); rintro e w3 ⟨rfl,hb3⟩
     have hz3:w.heap.size+2≤w3.heap.size:=(by have:=hb3.size; simp at this; omega)
     have zm0:∀ o,w3.frozen? ⟨w.heap.size,o,none⟩=false:=fun o=>(hb3.frozen (p:=⟨w.heap.size,o,none⟩) (by simp <;> omega)).trans (by simp [go_sem])
     have zm1:∀ o,w3.frozen? ⟨w.heap.size+1,o,none⟩=false:=fun o=>(hb3.frozen (p:=⟨w.heap.size+1,o,none⟩) (by simp <;> omega)).trans (by simp [go_sem])
     have m00:w3.cell? ⟨w.heap.size,0,none⟩=some (.int .i64 0):=(hb3.cell (p:=⟨w.heap.size,0,none⟩) (by simp <;> omega)).trans ((World.cell?_alloc_lt _ _ _ (by simp)).trans (by simp [go_sem]))
     have m01:w3.cell? ⟨w.heap.size,1,none⟩=some (.int .i64 0):=(hb3.cell (p:=⟨w.heap.size,1,none⟩) (by simp <;> omega)).trans ((World.cell?_alloc_lt _ _ _ (by simp)).trans (by simp [go_sem]))
     have m02:w3.cell? ⟨w.heap.size,2,none⟩=some (.int .i64 0):=(hb3.cell (p:=⟨w.heap.size,2,none⟩) (by simp <;> omega)).trans ((World.cell?_alloc_lt _ _ _ (by simp)).trans (by simp [go_sem]))
     have m03:w3.cell? ⟨w.heap.size,3,none⟩=some (.slice none 0 0):=(hb3.cell (p:=⟨w.heap.size,3,none⟩) (by simp <;> omega)).trans ((World.cell?_alloc_lt _ _ _ (by simp)).trans (by simp [go_sem]))
     have m10:w3.cell? ⟨w.heap.size+1,0,none⟩=some (.int .i64 0):=(hb3.cell (p:=⟨w.heap.size+1,0,none⟩) (by simp <;> omega)).trans ((by simp [go_sem]))
     have m11:w3.cell? ⟨w.heap.size+1,1,none⟩=some (.int .i64 0):=(hb3.cell (p:=⟨w.heap.size+1,1,none⟩) (by simp <;> omega)).trans ((by simp [go_sem]))
     have m12:w3.cell? ⟨w.heap.size+1,2,none⟩=some (.int .i64 0):=(hb3.cell (p:=⟨w.heap.size+1,2,none⟩) (by simp <;> omega)).trans ((by simp [go_sem]))
     have m13:w3.cell? ⟨w.heap.size+1,3,none⟩=some (.slice none 0 0):=(hb3.cell (p:=⟨w.heap.size+1,3,none⟩) (by simp <;> omega)).trans ((by simp [go_sem]))))
 have hB0:∀ o1 o2,Below w.heap.size w ((w.alloc o1).alloc o2):=fun o1 o2=>((Below.refl w.heap.size w).alloc (Nat.le_refl _) _).alloc (by simp) _
 have hB3:Below w.heap.size w w3:=Below.trans (hB0 _ _) (hb3.mono (by simp; omega))
 refine bodyPost_ret (v:=.agg #[.int .i64 1,.int .i64 M,.int .i64 0,.slice none 0 0]) (by simp [results,Tryz.results66,go_sem,m00,m01,m02,m03]) rfl ⟨rfl,?_⟩
 iterate 8 refine Below.setCell ?_ (by simp) _
 exact hB3
set_option maxHeartbeats 4000000 in
theorem next2vm (B:Nat) (b off c:Nat) (c0 c1:UInt8) (w:World) (hr:Reads w B 1 (some ⟨b,off,none⟩) 2 ([c0,c1].map bv)) (hB:B≤w.heap.size) (hc:2≤c) (hm:c≤maxLen) (hb:b<w.heap.size)
  (h0:∀ o1 o2,((w.alloc o1).alloc o2).cell? ⟨b,off,none⟩=some (.int .u8 c0.toNat)) (h1:∀ o1 o2,((w.alloc o1).alloc o2).cell? ⟨b,off+1,none⟩=some (.int .u8 c1.toNat))
  (e0:((c0.toNat:Int) != 165)=false) (e1:((c1.toNat:Int) != 1)=false) :
  Calls Tryz.prog 66 #[.slice (some ⟨b,off,none⟩) 2 c] w fun e w'=>e=.returned (.agg #[.int .i64 0,.int .i64 0,.int .i64 0,.slice none 0 0])∧Below w.heap.size w w':=by
 have hr2:=Lib.hid (fun o1 o2=>(hr.alloc hB o1).alloc (B:=B) (by simp; omega) o2)
 have hne:b≠w.heap.size:=by omega
 have hne1:b≠w.heap.size+1:=by omega
 unfold maxLen at hm
 clear hr
 go_enter Tryz.func66,Tryz.ntmps66
 go_wp2
 have hB0:∀ o1 o2,Below w.heap.size w ((w.alloc o1).alloc o2):=fun o1 o2=>((Below.refl w.heap.size w).alloc (Nat.le_refl _) _).alloc (by simp) _
 exact bodyPost_ret (v:=.agg #[.int .i64 0,.int .i64 0,.int .i64 0,.slice none 0 0]) (by simp [results,Tryz.results66,go_sem]) rfl ⟨rfl,hB0 _ _⟩
set_option maxHeartbeats 4000000 in
theorem next2vs (B:Nat) (b off c:Nat) (c0 c1:UInt8) (w:World) (hr:Reads w B 1 (some ⟨b,off,none⟩) 2 ([c0,c1].map bv)) (hB:B≤w.heap.size) (hc:2≤c) (hm:c≤maxLen) (hb:b<w.heap.size)
  (h0:∀ o1 o2,((w.alloc o1).alloc o2).cell? ⟨b,off,none⟩=some (.int .u8 c0.toNat)) (h1:∀ o1 o2,((w.alloc o1).alloc o2).cell? ⟨b,off+1,none⟩=some (.int .u8 c1.toNat))
  (e0:((c0.toNat:Int) != 165)=true) (e1:((c1.toNat:Int) != 1)=false) :
  Calls Tryz.prog 66 #[.slice (some ⟨b,off,none⟩) 2 c] w fun e w'=>e=.returned (.agg #[.int .i64 1,.int .i64 (Fr.ahead [c0,c1]:Int),.int .i64 0,.slice none 0 0])∧Below w.heap.size w w':=by
 have hr2:=Lib.hid (fun o1 o2=>(hr.alloc hB o1).alloc (B:=B) (by simp; omega) o2)
 have hne:b≠w.heap.size:=by omega
 have hne1:b≠w.heap.size+1:=by omega
 unfold maxLen at hm
 have HS:=Lib.hid (fun B A n c w hr hB hn=>skip_any B A n c [c0,c1] w hr hB hn)
 generalize (Fr.ahead [c0,c1]:Int)=M at *
 clear hr
 go_enter Tryz.func66,Tryz.ntmps66
 go_wp2_with (first
  | (go_at_call 100; (with_reducible refine (HS.out B _ _ _ _ (hr2.out _ _) (by simp; omega) (by unfold maxLen; omega)).mono ?_); rintro e w3 ⟨rfl,hb3⟩
     have hz3:w.heap.size+2≤w3.heap.size:=(by have:=hb3.size; simp at this; omega)
     have zm0:∀ o,w3.frozen? ⟨w.heap.size,o,none⟩=false:=fun o=>(hb3.frozen (p:=⟨w.heap.size,o,none⟩) (by simp <;> omega)).trans (by simp [go_sem])
     have zm1:∀ o,w3.frozen? ⟨w.heap.size+1,o,none⟩=false:=fun o=>(hb3.frozen (p:=⟨w.heap.size+1,o,none⟩) (by simp <;> omega)).trans (by simp [go_sem])
     have m00:w3.cell? ⟨w.heap.size,0,none⟩=some (.int .i64 0):=(hb3.cell (p:=⟨w.heap.size,0,none⟩) (by simp <;> omega)).trans ((World.cell?_alloc_lt _ _ _ (by simp)).trans (by simp [go_sem]))
     have m01:w3.cell? ⟨w.heap.size,1,none⟩=some (.int .i64 0):=(hb3.cell (p:=⟨w.heap.size,1,none⟩) (by simp <;> omega)).trans ((World.cell?_alloc_lt _ _ _ (by simp)).trans (by simp [go_sem]))
     have m02:w3.cell? ⟨w.heap.size,2,none⟩=some (.int .i64 0):=(hb3.cell (p:=⟨w.heap.size,2,none⟩) (by simp <;> omega)).trans ((World.cell?_alloc_lt _ _ _ (by simp)).trans (by simp [go_sem]))
     have m03:w3.cell? ⟨w.heap.size,3,none⟩=some (.slice none 0 0):=(hb3.cell (p:=⟨w.heap.size,3,none⟩) (by simp <;> omega)).trans ((World.cell?_alloc_lt _ _ _ (by simp)).trans (by simp [go_sem]))
     have m10:w3.cell? ⟨w.heap.size+1,0,none⟩=some (.int .i64 0):=(hb3.cell (p:=⟨w.heap.size+1,0,none⟩) (by simp <;> omega)).trans ((by simp [go_sem]))
     have m11:w3.cell? ⟨w.heap.size+1,1,none⟩=some (.int .i64 0):=(hb3.cell (p:=⟨w.heap.size+1,1,none⟩) (by simp <;> omega)).trans ((by simp [go_sem]))
     have m12:w3.cell? ⟨w.heap.size+1,2,none⟩=some (.int .i64 0):=(hb3.cell (p:=⟨w.heap.size+1,2,none⟩) (by simp <;> omega)).trans ((by simp [go_sem]))
     have m13:w3.cell? ⟨w.heap.size+1,3,none⟩=some (.slice none 0 0):=(hb3.cell (p:=⟨w.heap.size+1,3,none⟩) (by simp <;> omega)).trans ((by simp [go_sem]))))
 have hB0:∀ o1 o2,Below w.heap.size w ((w.alloc o1).alloc o2):=fun o1 o2=>((Below.refl w.heap.size w).alloc (Nat.le_refl _) _).alloc (by simp) _
 have hB3:Below w.heap.size w w3:=Below.trans (hB0 _ _) (hb3.mono (by simp; omega))
 refine bodyPost_ret (v:=.agg #[.int .i64 1,.int .i64 M,.int .i64 0,.slice none 0 0]) (by simp [results,Tryz.results66,go_sem,m00,m01,m02,m03]) rfl ⟨rfl,?_⟩
 iterate 8 refine Below.setCell ?_ (by simp) _
 exact hB3
set_option maxHeartbeats 4000000 in
theorem next2xm (B:Nat) (b off c:Nat) (c0 c1:UInt8) (w:World) (hr:Reads w B 1 (some ⟨b,off,none⟩) 2 ([c0,c1].map bv)) (hB:B≤w.heap.size) (hc:2≤c) (hm:c≤maxLen) (hb:b<w.heap.size)
  (h0:∀ o1 o2,((w.alloc o1).alloc o2).cell? ⟨b,off,none⟩=some (.int .u8 c0.toNat)) (h1:∀ o1 o2,((w.alloc o1).alloc o2).cell? ⟨b,off+1,none⟩=some (.int .u8 c1.toNat))
  (e0:((c0.toNat:Int) != 165)=false) (e1:((c1.toNat:Int) != 1)=true) :
  Calls Tryz.prog 66 #[.slice (some ⟨b,off,none⟩) 2 c] w fun e w'=>e=.returned (.agg #[.int .i64 3,.int .i64 1,.int .i64 10,.slice none 0 0])∧Below w.heap.size w w':=by
 have hr2:=Lib.hid (fun o1 o2=>(hr.alloc hB o1).alloc (B:=B) (by simp; omega) o2)
 have hne:b≠w.heap.size:=by omega
 have hne1:b≠w.heap.size+1:=by omega
 unfold maxLen at hm
 clear hr
 go_enter Tryz.func66,Tryz.ntmps66
 go_wp2_with (first
  | (go_at_call 99; (with_reducible refine (reject_any _ _).mono ?_); rintro e w2 ⟨rfl,hb2⟩
     have hz2:w.heap.size+2≤w2.heap.size:=(by have:=hb2.size; simp at this; omega)
     have zk0:∀ o,w2.frozen? ⟨w.heap.size,o,none⟩=false:=fun o=>(hb2.frozen (p:=⟨w.heap.size,o,none⟩) (by simp <;> omega)).trans (by simp [go_sem])
     have zk1:∀ o,w2.frozen? ⟨w.heap.size+1,o,none⟩=false:=fun o=>(hb2.frozen (p:=⟨w.heap.size+1,o,none⟩) (by simp <;> omega)).trans (by simp [go_sem])
     have k00:w2.cell? ⟨w.heap.size,0,none⟩=some (.int .i64 0):=(hb2.cell (p:=⟨w.heap.size,0,none⟩) (by simp <;> omega)).trans ((World.cell?_alloc_lt _ _ _ (by simp)).trans (by simp [go_sem]))
     have k01:w2.cell? ⟨w.heap.size,1,none⟩=some (.int .i64 0):=(hb2.cell (p:=⟨w.heap.size,1,none⟩) (by simp <;> omega)).trans ((World.cell?_alloc_lt _ _ _ (by simp)).trans (by simp [go_sem]))
     have k02:w2.cell? ⟨w.heap.size,2,none⟩=some (.int .i64 0):=(hb2.cell (p:=⟨w.heap.size,2,none⟩) (by simp <;> omega)).trans ((World.cell?_alloc_lt _ _ _ (by simp)).trans (by simp [go_sem]))
     have k03:w2.cell? ⟨w.heap.size,3,none⟩=some (.slice none 0 0):=(hb2.cell (p:=⟨w.heap.size,3,none⟩) (by simp <;> omega)).trans ((World.cell?_alloc_lt _ _ _ (by simp)).trans (by simp [go_sem]))
     have k10:w2.cell? ⟨w.heap.size+1,0,none⟩=some (.int .i64 0):=(hb2.cell (p:=⟨w.heap.size+1,0,none⟩) (by simp <;> omega)).trans ((by simp [go_sem]))
     have k11:w2.cell? ⟨w.heap.size+1,1,none⟩=some (.int .i64 0):=(hb2.cell (p:=⟨w.heap.size+1,1,none⟩) (by simp <;> omega)).trans ((by simp [go_sem]))
     have k12:w2.cell? ⟨w.heap.size+1,2,none⟩=some (.int .i64 0):=(hb2.cell (p:=⟨w.heap.size+1,2,none⟩) (by simp <;> omega)).trans ((by simp [go_sem]))
     have k13:w2.cell? ⟨w.heap.size+1,3,none⟩=some (.slice none 0 0):=(hb2.cell (p:=⟨w.heap.size+1,3,none⟩) (by simp <;> omega)).trans ((by simp [go_sem]))
     have R2:=Lib.hid ((hr2.out _ _).below (hb2.mono (by simp; omega)))
     have f0':w2.cell? ⟨b,off,none⟩=some (.int .u8 c0.toNat):=(hb2.cell (p:=⟨b,off,none⟩) (by simp; omega)).trans (h0 _ _)))
 have hB0:∀ o1 o2,Below w.heap.size w ((w.alloc o1).alloc o2):=fun o1 o2=>((Below.refl w.heap.size w).alloc (Nat.le_refl _) _).alloc (by simp) _
 have hB2:Below w.heap.size w w2:=Below.trans (hB0 _ _) (hb2.mono (by simp; omega))
 refine bodyPost_ret (v:=.agg #[.int .i64 3,.int .i64 1,.int .i64 10,.slice none 0 0]) (by simp [results,Tryz.results66,go_sem,k00,k01,k02,k03]) rfl ⟨rfl,?_⟩
 iterate 8 refine Below.setCell ?_ (by simp) _
 exact hB2
set_option maxHeartbeats 4000000 in
theorem next2xs (B:Nat) (b off c:Nat) (c0 c1:UInt8) (w:World) (hr:Reads w B 1 (some ⟨b,off,none⟩) 2 ([c0,c1].map bv)) (hB:B≤w.heap.size) (hc:2≤c) (hm:c≤maxLen) (hb:b<w.heap.size)
  (h0:∀ o1 o2,((w.alloc o1).alloc o2).cell? ⟨b,off,none⟩=some (.int .u8 c0.toNat)) (h1:∀ o1 o2,((w.alloc o1).alloc o2).cell? ⟨b,off+1,none⟩=some (.int .u8 c1.toNat))
  (e0:((c0.toNat:Int) != 165)=true) (e1:((c1.toNat:Int) != 1)=true) :
  Calls Tryz.prog 66 #[.slice (some ⟨b,off,none⟩) 2 c] w fun e w'=>e=.returned (.agg #[.int .i64 1,.int .i64 (Fr.ahead [c0,c1]:Int),.int .i64 0,.slice none 0 0])∧Below w.heap.size w w':=by
 have hr2:=Lib.hid (fun o1 o2=>(hr.alloc hB o1).alloc (B:=B) (by simp; omega) o2)
 have hne:b≠w.heap.size:=by omega
 have hne1:b≠w.heap.size+1:=by omega
 unfold maxLen at hm
 have HS:=Lib.hid (fun B A n c w hr hB hn=>skip_any B A n c [c0,c1] w hr hB hn)
 generalize (Fr.ahead [c0,c1]:Int)=M at *
 clear hr
 go_enter Tryz.func66,Tryz.ntmps66
 go_wp2_with (first
  | (go_at_call 99; (with_reducible refine (reject_any _ _).mono ?_); rintro e w2 ⟨rfl,hb2⟩
     have hz2:w.heap.size+2≤w2.heap.size:=(by have:=hb2.size; simp at this; omega)
     have zk0:∀ o,w2.frozen? ⟨w.heap.size,o,none⟩=false:=fun o=>(hb2.frozen (p:=⟨w.heap.size,o,none⟩) (by simp <;> omega)).trans (by simp [go_sem])
     have zk1:∀ o,w2.frozen? ⟨w.heap.size+1,o,none⟩=false:=fun o=>(hb2.frozen (p:=⟨w.heap.size+1,o,none⟩) (by simp <;> omega)).trans (by simp [go_sem])
     have k00:w2.cell? ⟨w.heap.size,0,none⟩=some (.int .i64 0):=(hb2.cell (p:=⟨w.heap.size,0,none⟩) (by simp <;> omega)).trans ((World.cell?_alloc_lt _ _ _ (by simp)).trans (by simp [go_sem]))
     have k01:w2.cell? ⟨w.heap.size,1,none⟩=some (.int .i64 0):=(hb2.cell (p:=⟨w.heap.size,1,none⟩) (by simp <;> omega)).trans ((World.cell?_alloc_lt _ _ _ (by simp)).trans (by simp [go_sem]))
     have k02:w2.cell? ⟨w.heap.size,2,none⟩=some (.int .i64 0):=(hb2.cell (p:=⟨w.heap.size,2,none⟩) (by simp <;> omega)).trans ((World.cell?_alloc_lt _ _ _ (by simp)).trans (by simp [go_sem]))
     have k03:w2.cell? ⟨w.heap.size,3,none⟩=some (.slice none 0 0):=(hb2.cell (p:=⟨w.heap.size,3,none⟩) (by simp <;> omega)).trans ((World.cell?_alloc_lt _ _ _ (by simp)).trans (by simp [go_sem]))
     have k10:w2.cell? ⟨w.heap.size+1,0,none⟩=some (.int .i64 0):=(hb2.cell (p:=⟨w.heap.size+1,0,none⟩) (by simp <;> omega)).trans ((by simp [go_sem]))
     have k11:w2.cell? ⟨w.heap.size+1,1,none⟩=some (.int .i64 0):=(hb2.cell (p:=⟨w.heap.size+1,1,none⟩) (by simp <;> omega)).trans ((by simp [go_sem]))
     have k12:w2.cell? ⟨w.heap.size+1,2,none⟩=some (.int .i64 0):=(hb2.cell (p:=⟨w.heap.size+1,2,none⟩) (by simp <;> omega)).trans ((by simp [go_sem]))
     have k13:w2.cell? ⟨w.heap.size+1,3,none⟩=some (.slice none 0 0):=(hb2.cell (p:=⟨w.heap.size+1,3,none⟩) (by simp <;> omega)).trans ((by simp [go_sem]))
     have R2:=Lib.hid ((hr2.out _ _).below (hb2.mono (by simp; omega)))
     have f0':w2.cell? ⟨b,off,none⟩=some (.int .u8 c0.toNat):=(hb2.cell (p:=⟨b,off,none⟩) (by simp; omega)).trans (h0 _ _))
  | (go_at_call 100; (with_reducible refine (HS.out B _ _ _ _ ((((R2.out.setCell (p:=⟨w.heap.size+1,0,none⟩) (by simp; omega) _).setCell (p:=⟨w.heap.size+1,1,none⟩) (by simp; omega) _).setCell (p:=⟨w.heap.size+1,2,none⟩) (by simp; omega) _).setCell (p:=⟨w.heap.size+1,3,none⟩) (by simp; omega) _) (by simp; omega) (by unfold maxLen; omega)).mono ?_); rintro e w3 ⟨rfl,hb3⟩
     have hz3:w.heap.size+2≤w3.heap.size:=(by have:=hb3.size; simp at this; omega)
     have zm0:∀ o,w3.frozen? ⟨w.heap.size,o,none⟩=false:=fun o=>(hb3.frozen (p:=⟨w.heap.size,o,none⟩) (by simp <;> omega)).trans (by simp [go_sem,zk0])
     have zm1:∀ o,w3.frozen? ⟨w.heap.size+1,o,none⟩=false:=fun o=>(hb3.frozen (p:=⟨w.heap.size+1,o,none⟩) (by simp <;> omega)).trans (by simp [go_sem,zk1])
     have m00:=hb3.cell (p:=⟨w.heap.size,0,none⟩) (by simp <;> omega)
     simp [go_sem,k00] at m00
     have m01:=hb3.cell (p:=⟨w.heap.size,1,none⟩) (by simp <;> omega)
     simp [go_sem,k01] at m01
     have m02:=hb3.cell (p:=⟨w.heap.size,2,none⟩) (by simp <;> omega)
     simp [go_sem,k02] at m02
     have m03:=hb3.cell (p:=⟨w.heap.size,3,none⟩) (by simp <;> omega)
     simp [go_sem,k03] at m03
     have m10:=hb3.cell (p:=⟨w.heap.size+1,0,none⟩) (by simp <;> omega)
     simp [go_sem,k10] at m10
     have m11:=hb3.cell (p:=⟨w.heap.size+1,1,none⟩) (by simp <;> omega)
     simp [go_sem,k11] at m11
     have m12:=hb3.cell (p:=⟨w.heap.size+1,2,none⟩) (by simp <;> omega)
     simp [go_sem,k12] at m12
     have m13:=hb3.cell (p:=⟨w.heap.size+1,3,none⟩) (by simp <;> omega)
     simp [go_sem,k13] at m13))
 have hB0:∀ o1 o2,Below w.heap.size w ((w.alloc o1).alloc o2):=fun o1 o2=>((Below.refl w.heap.size w).alloc (Nat.le_refl _) _).alloc (by simp) _
 have hB2:Below w.heap.size w w2:=Below.trans (hB0 _ _) (hb2.mono (by simp; omega))
 have hB3:Below w.heap.size w w3:=Below.trans (((((hB2).setCell (p:=⟨w.heap.size+1,0,none⟩) (by simp) (.int .i64 3)).setCell (p:=⟨w.heap.size+1,1,none⟩) (by simp) (.int .i64 1)).setCell (p:=⟨w.heap.size+1,2,none⟩) (by simp) (.int .i64 10)).setCell (p:=⟨w.heap.size+1,3,none⟩) (by simp) (.slice none 0 0)) (hb3.mono (by simp; omega))
 refine bodyPost_ret (v:=.agg #[.int .i64 1,.int .i64 M,.int .i64 0,.slice none 0 0]) (by simp [results,Tryz.results66,go_sem,m00,m01,m02,m03]) rfl ⟨rfl,?_⟩
 iterate 8 refine Below.setCell ?_ (by simp) _
 exact hB3
set_option maxHeartbeats 4000000 in
theorem next3vm (B:Nat) (b off c:Nat) (n:Nat) (c0 c1 nb:UInt8) (r:List UInt8) (w:World) (hr:Reads w B 1 (some ⟨b,off,none⟩) n ((c0::c1::nb::r).map bv)) (hB:B≤w.heap.size) (hc:n≤c) (hm:c≤maxLen) (hb:b<w.heap.size)
  (h0:∀ o1 o2,((w.alloc o1).alloc o2).cell? ⟨b,off,none⟩=some (.int .u8 c0.toNat)) (h1:∀ o1 o2,((w.alloc o1).alloc o2).cell? ⟨b,off+1,none⟩=some (.int .u8 c1.toNat))
  (e0:((c0.toNat:Int) != 165)=false) (e1:((c1.toNat:Int) != 1)=false) :
  Calls Tryz.prog 66 #[.slice (some ⟨b,off,none⟩) n c] w fun e w'=>∃ A' k' c',e=.returned (.agg #[.int .i64 ((behindV c1 nb r).kind:Int),.int .i64 ((behindV c1 nb r).size:Int),.int .i64 ((behindV c1 nb r).code:Int),.slice A' k' c']) ∧
   OwnB w' w.heap.size A' k' c' (behindV c1 nb r).body∧Below w.heap.size w w':=by
 have hl:r.length+3=n:=by have:=hr.1; simp at this; omega
 have hn:3≤n:=by omega
 clear hl
 have hr2:=Lib.hid (fun o1 o2=>(hr.alloc hB o1).alloc (B:=B) (by simp; omega) o2)
 have hne:b≠w.heap.size:=by omega
 have hne1:b≠w.heap.size+1:=by omega
 unfold maxLen at hm
 have hmin:(if (3:Int)<(n:Int) then (3:Int) else (n:Int))=3:=by split <;> omega
 clear hr
 go_enter Tryz.func66,Tryz.ntmps66
 go_wp2_with (first
  | (go_at_call 98; (with_reducible refine (body_any B _ n c c0 c1 nb r _ (hr2.out _ _) (by simp; omega) hc (by unfold maxLen; omega)).mono ?_); rintro e w1 ⟨A',k',c',rfl,hown,hb1⟩
     have hz:w.heap.size+2≤w1.heap.size:=(by have:=hb1.size; simp at this; omega)
     generalize hF1:(behindV c1 nb r).kind=F1 at *
     have HF1:=Lib.hid hF1
     clear hF1
     generalize hF2:(behindV c1 nb r).size=F2 at *
     have HF2:=Lib.hid hF2
     clear hF2
     generalize hF3:(behindV c1 nb r).code=F3 at *
     have HF3:=Lib.hid hF3
     clear hF3
     have zg0:∀ o,w1.frozen? ⟨w.heap.size,o,none⟩=false:=fun o=>(hb1.frozen (p:=⟨w.heap.size,o,none⟩) (by simp <;> omega)).trans (by simp [go_sem])
     have zg1:∀ o,w1.frozen? ⟨w.heap.size+1,o,none⟩=false:=fun o=>(hb1.frozen (p:=⟨w.heap.size+1,o,none⟩) (by simp <;> omega)).trans (by simp [go_sem])
     have g00:w1.cell? ⟨w.heap.size,0,none⟩=some (.int .i64 0):=(hb1.cell (p:=⟨w.heap.size,0,none⟩) (by simp <;> omega)).trans ((World.cell?_alloc_lt _ _ _ (by simp)).trans (by simp [go_sem]))
     have g01:w1.cell? ⟨w.heap.size,1,none⟩=some (.int .i64 0):=(hb1.cell (p:=⟨w.heap.size,1,none⟩) (by simp <;> omega)).trans ((World.cell?_alloc_lt _ _ _ (by simp)).trans (by simp [go_sem]))
     have g02:w1.cell? ⟨w.heap.size,2,none⟩=some (.int .i64 0):=(hb1.cell (p:=⟨w.heap.size,2,none⟩) (by simp <;> omega)).trans ((World.cell?_alloc_lt _ _ _ (by simp)).trans (by simp [go_sem]))
     have g03:w1.cell? ⟨w.heap.size,3,none⟩=some (.slice none 0 0):=(hb1.cell (p:=⟨w.heap.size,3,none⟩) (by simp <;> omega)).trans ((World.cell?_alloc_lt _ _ _ (by simp)).trans (by simp [go_sem]))
     have g10:w1.cell? ⟨w.heap.size+1,0,none⟩=some (.int .i64 0):=(hb1.cell (p:=⟨w.heap.size+1,0,none⟩) (by simp <;> omega)).trans ((by simp [go_sem]))
     have g11:w1.cell? ⟨w.heap.size+1,1,none⟩=some (.int .i64 0):=(hb1.cell (p:=⟨w.heap.size+1,1,none⟩) (by simp <;> omega)).trans ((by simp [go_sem]))
     have g12:w1.cell? ⟨w.heap.size+1,2,none⟩=some (.int .i64 0):=(hb1.cell (p:=⟨w.heap.size+1,2,none⟩) (by simp <;> omega)).trans ((by simp [go_sem]))
     have g13:w1.cell? ⟨w.heap.size+1,3,none⟩=some (.slice none 0 0):=(hb1.cell (p:=⟨w.heap.size+1,3,none⟩) (by simp <;> omega)).trans ((by simp [go_sem]))
     have R1:=Lib.hid ((hr2.out _ _).below (hb1.mono (by simp; omega)))
     have f0:w1.cell? ⟨b,off,none⟩=some (.int .u8 c0.toNat):=(hb1.cell (p:=⟨b,off,none⟩) (by simp; omega)).trans (h0 _ _)
     have f1:w1.cell? ⟨b,off+1,none⟩=some (.int .u8 c1.toNat):=(hb1.cell (p:=⟨b,off+1,none⟩) (by simp; omega)).trans (h1 _ _)))
 have hB0:∀ o1 o2,Below w.heap.size w ((w.alloc o1).alloc o2):=fun o1 o2=>((Below.refl w.heap.size w).alloc (Nat.le_refl _) _).alloc (by simp) _
 have hB1:Below w.heap.size w w1:=(hB0 _ _).trans (hb1.mono (by simp; omega))
 refine bodyPost_ret (v:=.agg #[.int .i64 (F1:Int),.int .i64 (F2:Int),.int .i64 (F3:Int),.slice A' k' c']) (by simp [results,Tryz.results66,go_sem,g00,g01,g02,g03]) rfl ⟨A',k',c',by rw [HF1.out,HF2.out,HF3.out],?_,?_⟩
 ·refine OwnB.base (base:=w.heap.size+2) ?_ (by omega)
  iterate 8 refine OwnB.setBelow ?_ (by simp) _
  exact hown.base (by simp)
 ·iterate 8 refine Below.setCell ?_ (by simp) _
  exact hB1
set_option maxHeartbeats 4000000 in
theorem next3vs (B:Nat) (b off c:Nat) (n:Nat) (c0 c1 nb:UInt8) (r:List UInt8) (w:World) (hr:Reads w B 1 (some ⟨b,off,none⟩) n ((c0::c1::nb::r).map bv)) (hB:B≤w.heap.size) (hc:n≤c) (hm:c≤maxLen) (hb:b<w.heap.size)
  (h0:∀ o1 o2,((w.alloc o1).alloc o2).cell? ⟨b,off,none⟩=some (.int .u8 c0.toNat)) (h1:∀ o1 o2,((w.alloc o1).alloc o2).cell? ⟨b,off+1,none⟩=some (.int .u8 c1.toNat))
  (e0:((c0.toNat:Int) != 165)=true) (e1:((c1.toNat:Int) != 1)=false) :
  Calls Tryz.prog 66 #[.slice (some ⟨b,off,none⟩) n c] w fun e w'=>e=.returned (.agg #[.int .i64 1,.int .i64 (Fr.ahead (c0::c1::nb::r):Int),.int .i64 0,.slice none 0 0])∧Below w.heap.size w w':=by
 have hl:r.length+3=n:=by have:=hr.1; simp at this; omega
 have hn:3≤n:=by omega
 clear hl
 have hr2:=Lib.hid (fun o1 o2=>(hr.alloc hB o1).alloc (B:=B) (by simp; omega) o2)
 have hne:b≠w.heap.size:=by omega
 have hne1:b≠w.heap.size+1:=by omega
 unfold maxLen at hm
 have hmin:(if (3:Int)<(n:Int) then (3:Int) else (n:Int))=3:=by split <;> omega
 have HS:=Lib.hid (fun B A n c w hr hB hn=>skip_any B A n c (c0::c1::nb::r) w hr hB hn)
 generalize (Fr.ahead (c0::c1::nb::r):Int)=M at *
 clear hr
 go_enter Tryz.func66,Tryz.ntmps66
 go_wp2_with (first
  | (go_at_call 98; (with_reducible refine (body_any B _ n c c0 c1 nb r _ (hr2.out _ _) (by simp; omega) hc (by unfold maxLen; omega)).mono ?_); rintro e w1 ⟨A',k',c',rfl,hown,hb1⟩
     have hz:w.heap.size+2≤w1.heap.size:=(by have:=hb1.size; simp at this; omega)
     generalize hF1:(behindV c1 nb r).kind=F1 at *
     have HF1:=Lib.hid hF1
     clear hF1
     generalize hF2:(behindV c1 nb r).size=F2 at *
     have HF2:=Lib.hid hF2
     clear hF2
     generalize hF3:(behindV c1 nb r).code=F3 at *
     have HF3:=Lib.hid hF3
     clear hF3
     have zg0:∀ o,w1.frozen? ⟨w.heap.size,o,none⟩=false:=fun o=>(hb1.frozen (p:=⟨w.heap.size,o,none⟩) (by simp <;> omega)).trans (by simp [go_sem])
     have zg1:∀ o,w1.frozen? ⟨w.heap.size+1,o,none⟩=false:=fun o=>(hb1.frozen (p:=⟨w.heap.size+1,o,none⟩) (by simp <;> omega)).trans (by simp [go_sem])
     have g00:w1.cell? ⟨w.heap.size,0,none⟩=some (.int .i64 0):=(hb1.cell (p:=⟨w.heap.size,0,none⟩) (by simp <;> omega)).trans ((World.cell?_alloc_lt _ _ _ (by simp)).trans (by simp [go_sem]))
     have g01:w1.cell? ⟨w.heap.size,1,none⟩=some (.int .i64 0):=(hb1.cell (p:=⟨w.heap.size,1,none⟩) (by simp <;> omega)).trans ((World.cell?_alloc_lt _ _ _ (by simp)).trans (by simp [go_sem]))
     have g02:w1.cell? ⟨w.heap.size,2,none⟩=some (.int .i64 0):=(hb1.cell (p:=⟨w.heap.size,2,none⟩) (by simp <;> omega)).trans ((World.cell?_alloc_lt _ _ _ (by simp)).trans (by simp [go_sem]))
     have g03:w1.cell? ⟨w.heap.size,3,none⟩=some (.slice none 0 0):=(hb1.cell (p:=⟨w.heap.size,3,none⟩) (by simp <;> omega)).trans ((World.cell?_alloc_lt _ _ _ (by simp)).trans (by simp [go_sem]))
     have g10:w1.cell? ⟨w.heap.size+1,0,none⟩=some (.int .i64 0):=(hb1.cell (p:=⟨w.heap.size+1,0,none⟩) (by simp <;> omega)).trans ((by simp [go_sem]))
     have g11:w1.cell? ⟨w.heap.size+1,1,none⟩=some (.int .i64 0):=(hb1.cell (p:=⟨w.heap.size+1,1,none⟩) (by simp <;> omega)).trans ((by simp [go_sem]))
     have g12:w1.cell? ⟨w.heap.size+1,2,none⟩=some (.int .i64 0):=(hb1.cell (p:=⟨w.heap.size+1,2,none⟩) (by simp <;> omega)).trans ((by simp [go_sem]))
     have g13:w1.cell? ⟨w.heap.size+1,3,none⟩=some (.slice none 0 0):=(hb1.cell (p:=⟨w.heap.size+1,3,none⟩) (by simp <;> omega)).trans ((by simp [go_sem]))
     have R1:=Lib.hid ((hr2.out _ _).below (hb1.mono (by simp; omega)))
     have f0:w1.cell? ⟨b,off,none⟩=some (.int .u8 c0.toNat):=(hb1.cell (p:=⟨b,off,none⟩) (by simp; omega)).trans (h0 _ _)
     have f1:w1.cell? ⟨b,off+1,none⟩=some (.int .u8 c1.toNat):=(hb1.cell (p:=⟨b,off+1,none⟩) (by simp; omega)).trans (h1 _ _))
  | (go_at_call 100; (with_reducible refine (HS.out B _ _ _ _ ((((R1.out.setCell (p:=⟨w.heap.size+1,0,none⟩) (by simp; omega) _).setCell (p:=⟨w.heap.size+1,1,none⟩) (by simp; omega) _).setCell (p:=⟨w.heap.size+1,2,none⟩) (by simp; omega) _).setCell (p:=⟨w.heap.size+1,3,none⟩) (by simp; omega) _) (by simp; omega) (by unfold maxLen; omega)).mono ?_); rintro e w3 ⟨rfl,hb3⟩
     have hz3:w.heap.size+2≤w3.heap.size:=(by have:=hb3.size; simp at this; omega)
     have zm0:∀ o,w3.frozen? ⟨w.heap.size,o,none⟩=false:=fun o=>(hb3.frozen (p:=⟨w.heap.size,o,none⟩) (by simp <;> omega)).trans (by simp [go_sem,zg0])
     have zm1:∀ o,w3.frozen? ⟨w.heap.size+1,o,none⟩=false:=fun o=>(hb3.frozen (p:=⟨w.heap.size+1,o,none⟩) (by simp <;> omega)).trans (by simp [go_sem,zg1])
     have m00:=hb3.cell (p:=⟨w.heap.size,0,none⟩) (by simp <;> omega)
     simp [go_sem,g00] at m00
     have m01:=hb3.cell (p:=⟨w.heap.size,1,none⟩) (by simp <;> omega)
     simp [go_sem,g01] at m01
     have m02:=hb3.cell (p:=⟨w.heap.size,2,none⟩) (by simp <;> omega)
     simp [go_sem,g02] at m02
     have m03:=hb3.cell (p:=⟨w.heap.size,3,none⟩) (by simp <;> omega)
     simp [go_sem,g03] at m03
     have m10:=hb3.cell (p:=⟨w.heap.size+1,0,none⟩) (by simp <;> omega)
     simp [go_sem,g10] at m10
     have m11:=hb3.cell (p:=⟨w.heap.size+1,1,none⟩) (by simp <;> omega)
     simp [go_sem,g11] at m11
     have m12:=hb3.cell (p:=⟨w.heap.size+1,2,none⟩) (by simp <;> omega)
     simp [go_sem,g12] at m12
     have m13:=hb3.cell (p:=⟨w.heap.size+1,3,none⟩) (by simp <;> omega)
     simp [go_sem,g13] at m13))
 have hB0:∀ o1 o2,Below w.heap.size w ((w.alloc o1).alloc o2):=fun o1 o2=>((Below.refl w.heap.size w).alloc (Nat.le_refl _) _).alloc (by simp) _
 have hB1:Below w.heap.size w w1:=(hB0 _ _).trans (hb1.mono (by simp; omega))
 have hB3:Below w.heap.size w w3:=Below.trans (((((hB1).setCell (p:=⟨w.heap.size+1,0,none⟩) (by simp) (.int .i64 F1)).setCell (p:=⟨w.heap.size+1,1,none⟩) (by simp) (.int .i64 F2)).setCell (p:=⟨w.heap.size+1,2,none⟩) (by simp) (.int .i64 F3)).setCell (p:=⟨w.heap.size+1,3,none⟩) (by simp) (.slice A' k' c')) (hb3.mono (by simp; omega))
 refine bodyPost_ret (v:=.agg #[.int .i64 1,.int .i64 M,.int .i64 0,.slice none 0 0]) (by simp [results,Tryz.results66,go_sem,m00,m01,m02,m03]) rfl ⟨rfl,?_⟩
 iterate 8 refine Below.setCell ?_ (by simp) _
 exact hB3
set_option maxHeartbeats 4000000 in
theorem next3xm (B:Nat) (b off c:Nat) (n:Nat) (c0 c1 nb:UInt8) (r:List UInt8) (w:World) (hr:Reads w B 1 (some ⟨b,off,none⟩) n ((c0::c1::nb::r).map bv)) (hB:B≤w.heap.size) (hc:n≤c) (hm:c≤maxLen) (hb:b<w.heap.size)
  (h0:∀ o1 o2,((w.alloc o1).alloc o2).cell? ⟨b,off,none⟩=some (.int .u8 c0.toNat)) (h1:∀ o1 o2,((w.alloc o1).alloc o2).cell? ⟨b,off+1,none⟩=some (.int .u8 c1.toNat))
  (e0:((c0.toNat:Int) != 165)=false) (e1:((c1.toNat:Int) != 1)=true) :
  Calls Tryz.prog 66 #[.slice (some ⟨b,off,none⟩) n c] w fun e w'=>e=.returned (.agg #[.int .i64 3,.int .i64 1,.int .i64 10,.slice none 0 0])∧Below w.heap.size w w':=by
 have hl:r.length+3=n:=by have:=hr.1; simp at this; omega
 have hn:3≤n:=by omega
 clear hl
 have hr2:=Lib.hid (fun o1 o2=>(hr.alloc hB o1).alloc (B:=B) (by simp; omega) o2)
 have hne:b≠w.heap.size:=by omega
 have hne1:b≠w.heap.size+1:=by omega
 unfold maxLen at hm
 have hmin:(if (3:Int)<(n:Int) then (3:Int) else (n:Int))=3:=by split <;> omega
 clear hr
 go_enter Tryz.func66,Tryz.ntmps66
 go_wp2_with (first
  | (go_at_call 98; (with_reducible refine (body_any B _ n c c0 c1 nb r _ (hr2.out _ _) (by simp; omega) hc (by unfold maxLen; omega)).mono ?_); rintro e w1 ⟨A',k',c',rfl,hown,hb1⟩
     have hz:w.heap.size+2≤w1.heap.size:=(by have:=hb1.size; simp at this; omega)
     generalize hF1:(behindV c1 nb r).kind=F1 at *
     have HF1:=Lib.hid hF1
     clear hF1
     generalize hF2:(behindV c1 nb r).size=F2 at *
     have HF2:=Lib.hid hF2
     clear hF2
     generalize hF3:(behindV c1 nb r).code=F3 at *
     have HF3:=Lib.hid hF3
     clear hF3
     have zg0:∀ o,w1.frozen? ⟨w.heap.size,o,none⟩=false:=fun o=>(hb1.frozen (p:=⟨w.heap.size,o,none⟩) (by simp <;> omega)).trans (by simp [go_sem])
     have zg1:∀ o,w1.frozen? ⟨w.heap.size+1,o,none⟩=false:=fun o=>(hb1.frozen (p:=⟨w.heap.size+1,o,none⟩) (by simp <;> omega)).trans (by simp [go_sem])
     have g00:w1.cell? ⟨w.heap.size,0,none⟩=some (.int .i64 0):=(hb1.cell (p:=⟨w.heap.size,0,none⟩) (by simp <;> omega)).trans ((World.cell?_alloc_lt _ _ _ (by simp)).trans (by simp [go_sem]))
     have g01:w1.cell? ⟨w.heap.size,1,none⟩=some (.int .i64 0):=(hb1.cell (p:=⟨w.heap.size,1,none⟩) (by simp <;> omega)).trans ((World.cell?_alloc_lt _ _ _ (by simp)).trans (by simp [go_sem]))
     have g02:w1.cell? ⟨w.heap.size,2,none⟩=some (.int .i64 0):=(hb1.cell (p:=⟨w.heap.size,2,none⟩) (by simp <;> omega)).trans ((World.cell?_alloc_lt _ _ _ (by simp)).trans (by simp [go_sem]))
     have g03:w1.cell? ⟨w.heap.size,3,none⟩=some (.slice none 0 0):=(hb1.cell (p:=⟨w.heap.size,3,none⟩) (by simp <;> omega)).trans ((World.cell?_alloc_lt _ _ _ (by simp)).trans (by simp [go_sem]))
     have g10:w1.cell? ⟨w.heap.size+1,0,none⟩=some (.int .i64 0):=(hb1.cell (p:=⟨w.heap.size+1,0,none⟩) (by simp <;> omega)).trans ((by simp [go_sem]))
     have g11:w1.cell? ⟨w.heap.size+1,1,none⟩=some (.int .i64 0):=(hb1.cell (p:=⟨w.heap.size+1,1,none⟩) (by simp <;> omega)).trans ((by simp [go_sem]))
     have g12:w1.cell? ⟨w.heap.size+1,2,none⟩=some (.int .i64 0):=(hb1.cell (p:=⟨w.heap.size+1,2,none⟩) (by simp <;> omega)).trans ((by simp [go_sem]))
     have g13:w1.cell? ⟨w.heap.size+1,3,none⟩=some (.slice none 0 0):=(hb1.cell (p:=⟨w.heap.size+1,3,none⟩) (by simp <;> omega)).trans ((by simp [go_sem]))
     have R1:=Lib.hid ((hr2.out _ _).below (hb1.mono (by simp; omega)))
     have f0:w1.cell? ⟨b,off,none⟩=some (.int .u8 c0.toNat):=(hb1.cell (p:=⟨b,off,none⟩) (by simp; omega)).trans (h0 _ _)
     have f1:w1.cell? ⟨b,off+1,none⟩=some (.int .u8 c1.toNat):=(hb1.cell (p:=⟨b,off+1,none⟩) (by simp; omega)).trans (h1 _ _))
  | (go_at_call 99; (with_reducible refine (reject_any _ _).mono ?_); rintro e w2 ⟨rfl,hb2⟩
     have hz2:w.heap.size+2≤w2.heap.size:=(by have:=hb2.size; simp at this; omega)
     have zk0:∀ o,w2.frozen? ⟨w.heap.size,o,none⟩=false:=fun o=>(hb2.frozen (p:=⟨w.heap.size,o,none⟩) (by simp <;> omega)).trans (by simp [go_sem,zg0])
     have zk1:∀ o,w2.frozen? ⟨w.heap.size+1,o,none⟩=false:=fun o=>(hb2.frozen (p:=⟨w.heap.size+1,o,none⟩) (by simp <;> omega)).trans (by simp [go_sem,zg1])
     have k00:=hb2.cell (p:=⟨w.heap.size,0,none⟩) (by simp <;> omega)
     simp [go_sem,g00] at k00
     have k01:=hb2.cell (p:=⟨w.heap.size,1,none⟩) (by simp <;> omega)
     simp [go_sem,g01] at k01
     have k02:=hb2.cell (p:=⟨w.heap.size,2,none⟩) (by simp <;> omega)
     simp [go_sem,g02] at k02
     have k03:=hb2.cell (p:=⟨w.heap.size,3,none⟩) (by simp <;> omega)
     simp [go_sem,g03] at k03
     have k10:=hb2.cell (p:=⟨w.heap.size+1,0,none⟩) (by simp <;> omega)
     simp [go_sem,g10] at k10
     have k11:=hb2.cell (p:=⟨w.heap.size+1,1,none⟩) (by simp <;> omega)
     simp [go_sem,g11] at k11
     have k12:=hb2.cell (p:=⟨w.heap.size+1,2,none⟩) (by simp <;> omega)
     simp [go_sem,g12] at k12
     have k13:=hb2.cell (p:=⟨w.heap.size+1,3,none⟩) (by simp <;> omega)
     simp [go_sem,g13] at k13
     have R2:=Lib.hid (((((R1.out.setCell (p:=⟨w.heap.size+1,0,none⟩) (by simp; omega) _).setCell (p:=⟨w.heap.size+1,1,none⟩) (by simp; omega) _).setCell (p:=⟨w.heap.size+1,2,none⟩) (by simp; omega) _).setCell (p:=⟨w.heap.size+1,3,none⟩) (by simp; omega) _).below (hb2.mono (by simp; omega)))
     have f0':w2.cell? ⟨b,off,none⟩=some (.int .u8 c0.toNat):=(hb2.cell (p:=⟨b,off,none⟩) (by simp; omega)).trans (by simp [go_sem,f0])))
 have hB0:∀ o1 o2,Below w.heap.size w ((w.alloc o1).alloc o2):=fun o1 o2=>((Below.refl w.heap.size w).alloc (Nat.le_refl _) _).alloc (by simp) _
 have hB1:Below w.heap.size w w1:=(hB0 _ _).trans (hb1.mono (by simp; omega))
 have hB2:Below w.heap.size w w2:=Below.trans (((((hB1).setCell (p:=⟨w.heap.size+1,0,none⟩) (by simp) (.int .i64 F1)).setCell (p:=⟨w.heap.size+1,1,none⟩) (by simp) (.int .i64 F2)).setCell (p:=⟨w.heap.size+1,2,none⟩) (by simp) (.int .i64 F3)).setCell (p:=⟨w.heap.size+1,3,none⟩) (by simp) (.slice A' k' c')) (hb2.mono (by simp; omega))
 refine bodyPost_ret (v:=.agg #[.int .i64 3,.int .i64 1,.int .i64 10,.slice none 0 0]) (by simp [results,Tryz.results66,go_sem,k00,k01,k02,k03]) rfl ⟨rfl,?_⟩
 iterate 8 refine Below.setCell ?_ (by simp) _
 exact hB2
set_option maxHeartbeats 4000000 in
theorem next3xs (B:Nat) (b off c:Nat) (n:Nat) (c0 c1 nb:UInt8) (r:List UInt8) (w:World) (hr:Reads w B 1 (some ⟨b,off,none⟩) n ((c0::c1::nb::r).map bv)) (hB:B≤w.heap.size) (hc:n≤c) (hm:c≤maxLen) (hb:b<w.heap.size)
  (h0:∀ o1 o2,((w.alloc o1).alloc o2).cell? ⟨b,off,none⟩=some (.int .u8 c0.toNat)) (h1:∀ o1 o2,((w.alloc o1).alloc o2).cell? ⟨b,off+1,none⟩=some (.int .u8 c1.toNat))
  (e0:((c0.toNat:Int) != 165)=true) (e1:((c1.toNat:Int) != 1)=true) :
  Calls Tryz.prog 66 #[.slice (some ⟨b,off,none⟩) n c] w fun e w'=>e=.returned (.agg #[.int .i64 1,.int .i64 (Fr.ahead (c0::c1::nb::r):Int),.int .i64 0,.slice none 0 0])∧Below w.heap.size w w':=by
 have hl:r.length+3=n:=by have:=hr.1; simp at this; omega
 have hn:3≤n:=by omega
 clear hl
 have hr2:=Lib.hid (fun o1 o2=>(hr.alloc hB o1).alloc (B:=B) (by simp; omega) o2)
 have hne:b≠w.heap.size:=by omega
 have hne1:b≠w.heap.size+1:=by omega
 unfold maxLen at hm
 have hmin:(if (3:Int)<(n:Int) then (3:Int) else (n:Int))=3:=by split <;> omega
 have HS:=Lib.hid (fun B A n c w hr hB hn=>skip_any B A n c (c0::c1::nb::r) w hr hB hn)
 generalize (Fr.ahead (c0::c1::nb::r):Int)=M at *
 clear hr
 go_enter Tryz.func66,Tryz.ntmps66
 go_wp2_with (first
  | (go_at_call 98; (with_reducible refine (body_any B _ n c c0 c1 nb r _ (hr2.out _ _) (by simp; omega) hc (by unfold maxLen; omega)).mono ?_); rintro e w1 ⟨A',k',c',rfl,hown,hb1⟩
     have hz:w.heap.size+2≤w1.heap.size:=(by have:=hb1.size; simp at this; omega)
     generalize hF1:(behindV c1 nb r).kind=F1 at *
     have HF1:=Lib.hid hF1
     clear hF1
     generalize hF2:(behindV c1 nb r).size=F2 at *
     have HF2:=Lib.hid hF2
     clear hF2
     generalize hF3:(behindV c1 nb r).code=F3 at *
     have HF3:=Lib.hid hF3
     clear hF3
     have zg0:∀ o,w1.frozen? ⟨w.heap.size,o,none⟩=false:=fun o=>(hb1.frozen (p:=⟨w.heap.size,o,none⟩) (by simp <;> omega)).trans (by simp [go_sem])
     have zg1:∀ o,w1.frozen? ⟨w.heap.size+1,o,none⟩=false:=fun o=>(hb1.frozen (p:=⟨w.heap.size+1,o,none⟩) (by simp <;> omega)).trans (by simp [go_sem])
     have g00:w1.cell? ⟨w.heap.size,0,none⟩=some (.int .i64 0):=(hb1.cell (p:=⟨w.heap.size,0,none⟩) (by simp <;> omega)).trans ((World.cell?_alloc_lt _ _ _ (by simp)).trans (by simp [go_sem]))
     have g01:w1.cell? ⟨w.heap.size,1,none⟩=some (.int .i64 0):=(hb1.cell (p:=⟨w.heap.size,1,none⟩) (by simp <;> omega)).trans ((World.cell?_alloc_lt _ _ _ (by simp)).trans (by simp [go_sem]))
     have g02:w1.cell? ⟨w.heap.size,2,none⟩=some (.int .i64 0):=(hb1.cell (p:=⟨w.heap.size,2,none⟩) (by simp <;> omega)).trans ((World.cell?_alloc_lt _ _ _ (by simp)).trans (by simp [go_sem]))
     have g03:w1.cell? ⟨w.heap.size,3,none⟩=some (.slice none 0 0):=(hb1.cell (p:=⟨w.heap.size,3,none⟩) (by simp <;> omega)).trans ((World.cell?_alloc_lt _ _ _ (by simp)).trans (by simp [go_sem]))
     have g10:w1.cell? ⟨w.heap.size+1,0,none⟩=some (.int .i64 0):=(hb1.cell (p:=⟨w.heap.size+1,0,none⟩) (by simp <;> omega)).trans ((by simp [go_sem]))
     have g11:w1.cell? ⟨w.heap.size+1,1,none⟩=some (.int .i64 0):=(hb1.cell (p:=⟨w.heap.size+1,1,none⟩) (by simp <;> omega)).trans ((by simp [go_sem]))
     have g12:w1.cell? ⟨w.heap.size+1,2,none⟩=some (.int .i64 0):=(hb1.cell (p:=⟨w.heap.size+1,2,none⟩) (by simp <;> omega)).trans ((by simp [go_sem]))
     have g13:w1.cell? ⟨w.heap.size+1,3,none⟩=some (.slice none 0 0):=(hb1.cell (p:=⟨w.heap.size+1,3,none⟩) (by simp <;> omega)).trans ((by simp [go_sem]))
     have R1:=Lib.hid ((hr2.out _ _).below (hb1.mono (by simp; omega)))
     have f0:w1.cell? ⟨b,off,none⟩=some (.int .u8 c0.toNat):=(hb1.cell (p:=⟨b,off,none⟩) (by simp; omega)).trans (h0 _ _)
     have f1:w1.cell? ⟨b,off+1,none⟩=some (.int .u8 c1.toNat):=(hb1.cell (p:=⟨b,off+1,none⟩) (by simp; omega)).trans (h1 _ _))
  | (go_at_call 99; (with_reducible refine (reject_any _ _).mono ?_); rintro e w2 ⟨rfl,hb2⟩
     have hz2:w.heap.size+2≤w2.heap.size:=(by have:=hb2.size; simp at this; omega)
     have zk0:∀ o,w2.frozen? ⟨w.heap.size,o,none⟩=false:=fun o=>(hb2.frozen (p:=⟨w.heap.size,o,none⟩) (by simp <;> omega)).trans (by simp [go_sem,zg0])
     have zk1:∀ o,w2.frozen? ⟨w.heap.size+1,o,none⟩=false:=fun o=>(hb2.frozen (p:=⟨w.heap.size+1,o,none⟩) (by simp <;> omega)).trans (by simp [go_sem,zg1])
     have k00:=hb2.cell (p:=⟨w.heap.size,0,none⟩) (by simp <;> omega)
     simp [go_sem,g00] at k00
     have k01:=hb2.cell (p:=⟨w.heap.size,1,none⟩) (by simp <;> omega)
     simp [go_sem,g01] at k01
     have k02:=hb2.cell (p:=⟨w.heap.size,2,none⟩) (by simp <;> omega)
     simp [go_sem,g02] at k02
     have k03:=hb2.cell (p:=⟨w.heap.size,3,none⟩) (by simp <;> omega)
     simp [go_sem,g03] at k03
     have k10:=hb2.cell (p:=⟨w.heap.size+1,0,none⟩) (by simp <;> omega)
     simp [go_sem,g10] at k10
     have k11:=hb2.cell (p:=⟨w.heap.size+1,1,none⟩) (by simp <;> omega)
     simp [go_sem,g11] at k11
     have k12:=hb2.cell (p:=⟨w.heap.size+1,2,none⟩) (by simp <;> omega)
     simp [go_sem,g12] at k12
     have k13:=hb2.cell (p:=⟨w.heap.size+1,3,none⟩) (by simp <;> omega)
     simp [go_sem,g13] at k13
     have R2:=Lib.hid (((((R1.out.setCell (p:=⟨w.heap.size+1,0,none⟩) (by simp; omega) _).setCell (p:=⟨w.heap.size+1,1,none⟩) (by simp; omega) _).setCell (p:=⟨w.heap.size+1,2,none⟩) (by simp; omega) _).setCell (p:=⟨w.heap.size+1,3,none⟩) (by simp; omega) _).below (hb2.mono (by simp; omega)))
     have f0':w2.cell? ⟨b,off,none⟩=some (.int .u8 c0.toNat):=(hb2.cell (p:=⟨b,off,none⟩) (by simp; omega)).trans (by simp [go_sem,f0]))
  | (go_at_call 100; (with_reducible refine (HS.out B _ _ _ _ ((((R2.out.setCell (p:=⟨w.heap.size+1,0,none⟩) (by simp; omega) _).setCell (p:=⟨w.heap.size+1,1,none⟩) (by simp; omega) _).setCell (p:=⟨w.heap.size+1,2,none⟩) (by simp; omega) _).setCell (p:=⟨w.heap.size+1,3,none⟩) (by simp; omega) _) (by simp; omega) (by unfold maxLen; omega)).mono ?_); rintro e w3 ⟨rfl,hb3⟩
     have hz3:w.heap.size+2≤w3.heap.size:=(by have:=hb3.size; simp at this; omega)
     have zm0:∀ o,w3.frozen? ⟨w.heap.size,o,none⟩=false:=fun o=>(hb3.frozen (p:=⟨w.heap.size,o,none⟩) (by simp <;> omega)).trans (by simp [go_sem,zk0])
     have zm1:∀ o,w3.frozen? ⟨w.heap.size+1,o,none⟩=false:=fun o=>(hb3.frozen (p:=⟨w.heap.size+1,o,none⟩) (by simp <;> omega)).trans (by simp [go_sem,zk1])
     have m00:=hb3.cell (p:=⟨w.heap.size,0,none⟩) (by simp <;> omega)
     simp [go_sem,k00] at m00
     have m01:=hb3.cell (p:=⟨w.heap.size,1,none⟩) (by simp <;> omega)
     simp [go_sem,k01] at m01
     have m02:=hb3.cell (p:=⟨w.heap.size,2,none⟩) (by simp <;> omega)
     simp [go_sem,k02] at m02
     have m03:=hb3.cell (p:=⟨w.heap.size,3,none⟩) (by simp <;> omega)
     simp [go_sem,k03] at m03
     have m10:=hb3.cell (p:=⟨w.heap.size+1,0,none⟩) (by simp <;> omega)
     simp [go_sem,k10] at m10
     have m11:=hb3.cell (p:=⟨w.heap.size+1,1,none⟩) (by simp <;> omega)
     simp [go_sem,k11] at m11
     have m12:=hb3.cell (p:=⟨w.heap.size+1,2,none⟩) (by simp <;> omega)
     simp [go_sem,k12] at m12
     have m13:=hb3.cell (p:=⟨w.heap.size+1,3,none⟩) (by simp <;> omega)
     simp [go_sem,k13] at m13))
 have hB0:∀ o1 o2,Below w.heap.size w ((w.alloc o1).alloc o2):=fun o1 o2=>((Below.refl w.heap.size w).alloc (Nat.le_refl _) _).alloc (by simp) _
 have hB1:Below w.heap.size w w1:=(hB0 _ _).trans (hb1.mono (by simp; omega))
 have hB2:Below w.heap.size w w2:=Below.trans (((((hB1).setCell (p:=⟨w.heap.size+1,0,none⟩) (by simp) (.int .i64 F1)).setCell (p:=⟨w.heap.size+1,1,none⟩) (by simp) (.int .i64 F2)).setCell (p:=⟨w.heap.size+1,2,none⟩) (by simp) (.int .i64 F3)).setCell (p:=⟨w.heap.size+1,3,none⟩) (by simp) (.slice A' k' c')) (hb2.mono (by simp; omega))
 have hB3:Below w.heap.size w w3:=Below.trans (((((hB2).setCell (p:=⟨w.heap.size+1,0,none⟩) (by simp) (.int .i64 3)).setCell (p:=⟨w.heap.size+1,1,none⟩) (by simp) (.int .i64 1)).setCell (p:=⟨w.heap.size+1,2,none⟩) (by simp) (.int .i64 10)).setCell (p:=⟨w.heap.size+1,3,none⟩) (by simp) (.slice none 0 0)) (hb3.mono (by simp; omega))
 refine bodyPost_ret (v:=.agg #[.int .i64 1,.int .i64 M,.int .i64 0,.slice none 0 0]) (by simp [results,Tryz.results66,go_sem,m00,m01,m02,m03]) rfl ⟨rfl,?_⟩
 iterate 8 refine Below.setCell ?_ (by simp) _
 exact hB3
end
section
open Go.RowKit Crc Fr
set_option maxHeartbeats 400000 in
theorem next0 (A:Option Addr) (c:Nat) (w:World) :
  Calls Tryz.prog 66 #[.slice A 0 c] w fun e w'=>e=.returned (.agg #[.int .i64 0,.int .i64 0,.int .i64 0,.slice none 0 0])∧Below w.heap.size w w':=by
 go_enter Tryz.func66,Tryz.ntmps66
 go_wp2
 exact bodyPost_ret (v:=.agg #[.int .i64 0,.int .i64 0,.int .i64 0,.slice none 0 0]) (by simp [results,Tryz.results66,go_sem]) rfl ⟨rfl,((Below.refl w.heap.size w).alloc (Nat.le_refl _) _).alloc (by simp) _⟩
theorem bne_u8 (a:UInt8) (k:Nat) (hk:k<256):((a.toNat:Int) != (k:Int))=!decide (a=UInt8.ofNat k):=by
 by_cases h:a=UInt8.ofNat k
 ·subst h
  have:(UInt8.ofNat k).toNat=k:=by simp; omega
  simp [this]
 ·have:a.toNat≠k:=by
   intro e
   apply h
   apply UInt8.toNat_inj.1
   rw [e]; simp; omega
  simp only [h,decide_false,Bool.not_false]
  rw [bne_iff_ne]; omega
def Gives (f:Fr.Fd) (w:World) (e:Ending) (w':World):Prop :=
 ∃ A' k' c',e=.returned (.agg #[.int .i64 (f.kind:Int),.int .i64 (f.size:Int),.int .i64 (f.code:Int),.slice A' k' c'])∧OwnB w' w.heap.size A' k' c' f.body∧Below w.heap.size w w'
theorem Gives.plain {f:Fr.Fd} {w w':World} {e:Ending} (hf:f.body=[]) (he:e=.returned (.agg #[.int .i64 (f.kind:Int),.int .i64 (f.size:Int),.int .i64 (f.code:Int),.slice none 0 0])) (hb:Below w.heap.size w w'):Gives f w e w' :=
 ⟨none,0,0,he,by rw [hf]; exact OwnB.nil _ _,hb⟩
theorem next_any (B:Nat) (A:Option Addr) (n c:Nat) (l:List UInt8) (w:World) (hr:Reads w B 1 A n (l.map bv)) (hB:B≤w.heap.size) (hc:n≤c) (hm:c≤maxLen) :
  Calls Tryz.prog 66 #[.slice A n c] w (Gives (Fr.next l) w):=by
 have hl:l.length=n:=by simpa using hr.1
 match l,hl,hr with
 | [],hl,hr =>
  obtain rfl:0=n:=hl
  exact (next0 A c w).mono fun e w' ⟨h1,h2⟩=>Gives.plain rfl h1 h2
 | c0::t,hl,hr =>
  obtain ⟨b,off,rfl,hb,hcell⟩:=hr.open_ (by simp at hl; omega)
  have hal:∀ (k:Nat) (u:UInt8) (o1 o2:Obj),(c0::t)[k]?=some u→((w.alloc o1).alloc o2).cell? ⟨b,off+k,none⟩=some (.int .u8 u.toNat):=fun k u o1 o2 h =>
   (World.cell?_alloc_lt (w.alloc o1) o2 _ (by simp; omega)).trans ((World.cell?_alloc_lt w o1 _ (by simp; omega)).trans (hcell k u h))
  have h0:∀ o1 o2,((w.alloc o1).alloc o2).cell? ⟨b,off,none⟩=some (.int .u8 c0.toNat):=fun o1 o2=>hal 0 c0 o1 o2 rfl
  have hm0:=bne_u8 c0 165 (by omega)
  match t,hl,hr,hcell,hal with
  | [],hl,hr,hcell,hal =>
   obtain rfl:1=n:=hl
   by_cases h:c0=165
   ·subst h
    exact (next1m B b off c 165 w hr hB hc hm (by omega) h0 (by simp)).mono fun e w' ⟨h1,h2⟩=>Gives.plain rfl h1 h2
   ·have hx:Fr.next [c0]=skip (Fr.ahead [c0]):=next_of_head _ _ h
    rw [hx]
    exact (next1s B b off c c0 w hr hB hc hm (by omega) h0 (by rw [show (165:Int)=((165:Nat):Int) from rfl,hm0]; simpa using h)).mono fun e w' ⟨h1,h2⟩=>Gives.plain rfl h1 h2
  | [c1],hl,hr,hcell,hal =>
   obtain rfl:2=n:=hl
   have h1:∀ o1 o2,((w.alloc o1).alloc o2).cell? ⟨b,off+1,none⟩=some (.int .u8 c1.toNat):=fun o1 o2=>hal 1 c1 o1 o2 rfl
   have hm1:=bne_u8 c1 1 (by omega)
   by_cases hv:c1=1
   ·subst hv
    by_cases h:c0=165
    ·subst h
     exact (next2vm B b off c 165 1 w hr hB hc hm (by omega) h0 h1 (by simp) (by simp)).mono fun e w' ⟨h1,h2⟩=>Gives.plain rfl h1 h2
    ·have hx:Fr.next [c0,1]=skip (Fr.ahead [c0,1]):=next_of_head _ _ h
     rw [hx]
     exact (next2vs B b off c c0 1 w hr hB hc hm (by omega) h0 h1 (by rw [show (165:Int)=((165:Nat):Int) from rfl,hm0]; simpa using h) (by simp)).mono fun e w' ⟨h1,h2⟩=>Gives.plain rfl h1 h2
   ·have e1:((c1.toNat:Int) != 1)=true:=by rw [show (1:Int)=((1:Nat):Int) from rfl,hm1]; simpa using hv
    by_cases h:c0=165
    ·subst h
     have hx:Fr.next [165,c1]=Fr.reject 10:=by simp [Fr.next,hv]
     rw [hx]
     exact (next2xm B b off c 165 c1 w hr hB hc hm (by omega) h0 h1 (by simp) e1).mono fun e w' ⟨h1,h2⟩=>Gives.plain rfl h1 h2
    ·have hx:Fr.next [c0,c1]=skip (Fr.ahead [c0,c1]):=next_of_head _ _ h
     rw [hx]
     exact (next2xs B b off c c0 c1 w hr hB hc hm (by omega) h0 h1 (by rw [show (165:Int)=((165:Nat):Int) from rfl,hm0]; simpa using h) e1).mono fun e w' ⟨h1,h2⟩=>Gives.plain rfl h1 h2
  | c1::nb::r,hl,hr,hcell,hal =>
   have h1:∀ o1 o2,((w.alloc o1).alloc o2).cell? ⟨b,off+1,none⟩=some (.int .u8 c1.toNat):=fun o1 o2=>hal 1 c1 o1 o2 rfl
   have hm1:=bne_u8 c1 1 (by omega)
   by_cases hv:c1=1
   ·subst hv
    by_cases h:c0=165
    ·subst h
     have hx:Fr.next (165::1::nb::r)=behindV 1 nb r:=by simp [Fr.next,behindV_one]
     rw [hx]
     exact (next3vm B b off c n 165 1 nb r w hr hB hc hm (by omega) h0 h1 (by simp) (by simp)).mono fun e w' h=>h
    ·have hx:Fr.next (c0::1::nb::r)=skip (Fr.ahead (c0::1::nb::r)):=next_of_head _ _ h
     rw [hx]
     exact (next3vs B b off c n c0 1 nb r w hr hB hc hm (by omega) h0 h1 (by rw [show (165:Int)=((165:Nat):Int) from rfl,hm0]; simpa using h) (by simp)).mono fun e w' ⟨h1,h2⟩=>Gives.plain rfl h1 h2
   ·have e1:((c1.toNat:Int) != 1)=true:=by rw [show (1:Int)=((1:Nat):Int) from rfl,hm1]; simpa using hv
    by_cases h:c0=165
    ·subst h
     have hx:Fr.next (165::c1::nb::r)=Fr.reject 10:=by simp [Fr.next,hv]
     rw [hx]
     exact (next3xm B b off c n 165 c1 nb r w hr hB hc hm (by omega) h0 h1 (by simp) e1).mono fun e w' ⟨h1,h2⟩=>Gives.plain rfl h1 h2
    ·have hx:Fr.next (c0::c1::nb::r)=skip (Fr.ahead (c0::c1::nb::r)):=next_of_head _ _ h
     rw [hx]
     exact (next3xs B b off c n c0 c1 nb r w hr hB hc hm (by omega) h0 h1 (by rw [show (165:Int)=((165:Nat):Int) from rfl,hm0]; simpa using h) e1).mono fun e w' ⟨h1,h2⟩=>Gives.plain rfl h1 h2
end
section
open Go.RowKit Crc Fr
theorem wpList_make0_b {w:World} {ops:Array Oper} {rest:List Oper} {o:Oper} {a:Act} {Q:Exit→Act→World→Prop}
  (hg:o.guard=none) (l c:Operand) (hop:o.op=Op.makeSlice 23 l c) (base:Nat) (kl kc:IntKind) (C:Int) (n:Nat) (hl:a.eval l=.int kl 0) (hc:a.eval c=.int kc C) (hC:C=(n:Int))
  (hn:n≤1000000000) (hbase:base≤w.heap.size)
  (h:∀ w',OwnB w' base (some ⟨w.heap.size,0,none⟩) 0 n []→w.grownBy w' none→wpList Tryz.prog ops Q rest (a.put o.dst (.slice (some ⟨w.heap.size,0,none⟩) 0 n)) w') :
  wpList Tryz.prog ops Q (o::rest) a w:=by
 obtain ⟨i0,hi0,hz0,hz1,hz2⟩:=info_parts u8_info
 exact wpList_make_own w hg l c 23 hop base 5 i0 _ 1 Tryz.underlying23 hi0 hz0 hz1 kl kc C n hl hc hC (by rw [hz2]; omega) (by simp only [maxLen]; omega) hbase h
theorem OwnB.cut {w:World} {base k c g:Nat} {l:List UInt8} (h:OwnB w base (some ⟨g,0,none⟩) k c l) (lo m:Nat) (hm:lo+m≤k) (hlt:0<k):Reads w w.heap.size 1 (some ⟨g,lo,none⟩) m (((l.drop lo).take m).map bv):=by
 have hl:=h.length
 obtain ⟨g',_,e,_,hg,_⟩:=h.get (i:=0) hlt
 obtain rfl:g=g':=by injection e with h; injection h
 refine Reads.mk_ (by simp; omega) hg (fun j u hu=>?_)
 rw [List.getElem?_take] at hu
 split at hu
 case isFalse=>cases hu
 rw [List.getElem?_drop] at hu
 exact (h.get' (by omega) hu).1
theorem slice_l (b off n c lo:Nat) (w:World) (L:Int) (hL:L=lo) (h0:0<lo) (h1:lo≤n) (h2:lo<c) :
  (Instr.slice 23 (.slice (some ⟨b,off,none⟩) n c) (some (.int .i64 L)) none none).run Tryz.prog w=.ok (.slice (some ⟨b,off+lo,none⟩) (n - lo) (c - lo)) w:=by
 subst hL
 rw [run_slice_l w 23 _ n c elem22 .i64 lo (by omega) (by omega),size22]
 simp only [Result.andThen,sliced,Int.toNat_natCast]
 rw [if_neg (by omega)]
 simp [Addr.add,show lo≠0 by omega]
theorem two_bytes2 (s:BitVec 16):[Value.int IntKind.u8 ((s.toNat:Int) / 256),Value.int IntKind.u8 ((s.toNat:Int) % 256)]=[hi s,lo s].map bv:=by
 simp only [List.map_cons,List.map_nil,bv,hi_toNat,lo_toNat]
theorem put_cut {w:World} {base k c g:Nat} {x:UInt8} {l:List UInt8} (h:OwnB w base (some ⟨g,0,none⟩) k c ([]++[165,1,x]++l)):Reads w w.heap.size 1 (some ⟨g,1,none⟩) (k - 1) (([1,x]++l).map bv):=by
 have hl:=h.length
 simp at hl
 have:=h.cut 1 (k - 1) (by omega) (by omega)
 rw [List.take_of_length_le (by simp; omega)] at this
 exact this
set_option maxHeartbeats 1000000 in
theorem put_any (B:Nat) (A:Option Addr) (n c:Nat) (l:List UInt8) (w:World) (hr:Reads w B 1 A n (l.map bv)) (hB:B≤w.heap.size) (hn:n≤32) :
  Calls Tryz.prog 152 #[.slice A n c] w fun e w'=>∃ A' k' c',e=.returned (.tuple #[.slice A' k' c',.int .i64 0])∧OwnB w' w.heap.size A' k' c' (put l)∧Below w.heap.size w w':=by
 have hl:l.length=n:=by simpa using hr.1
 have hh:[Value.int IntKind.u8 165,Value.int IntKind.u8 1,Value.int IntKind.u8 (n:Int)]=[165,1,UInt8.ofNat n].map bv:=by
  simp [bv]; omega
 have HH:=Lib.hid hh
 have HL:=Lib.hid hl
 clear hh hl
 go_enter Tryz.func152,Tryz.ntmps152
 go_wp2_with (first
  | (at_make
     refine wpList_make0_b rfl (.const (.int .i64 0)) (.tmp 12) rfl w.heap.size _ _ _ (n+5) rfl rfl (by omega) (by omega) (Nat.le_refl _) ?_
     intro w1 o1 hg1
     have hb1:Below w.heap.size w w1:=(Below.refl _ _).grown hg1 (Nat.le_refl _) (fun k hk=>by cases hk)
     have hs1:=hb1.size
     clear hg1)
  | (at_builtin
     refine wpList_append_b rfl (.tmp 14) (.tmp 18) rfl w.heap.size _ 0 _ [] rfl (o1.alloc _) (w1.heap.size+1) (some ⟨w1.heap.size,0,none⟩) 3 3 [165,1,UInt8.ofNat n] rfl (reads_new_b w1 _ _ 5 (0,0) 3 HH.out rfl) (by omega) (by simp; omega) ?_
     intro A2 k2 c2 w2 hk2 hk2' o2 hg2 _
     have hb2:Below w.heap.size w w2:=(hb1.alloc hs1 _).grown hg2 (by simp; omega) (fun g hg=>(o1.lt g hg).1)
     have hs2:=hb2.size
     clear hg2)
  | (at_builtin
     refine wpList_append_b rfl (.tmp 20) (.tmp 21) rfl w.heap.size A2 k2 c2 _ rfl o2 B A n c l rfl (hr.below (hb2.mono hB)) (by omega) hs2 ?_
     intro A3 k3 c3 w3 hk3 hk3' o3 hg3 _
     have hb3:Below w.heap.size w w3:=hb2.grown hg3 hs2 (fun g hg=>(o2.lt g hg).1)
     have hs3:=hb3.size
     have hbd3:=o3.bounds
     obtain ⟨g3,u3,rfl,_,_,_,_,_⟩:=o3.get (i:=0) (by omega)
     have hsl:=fun w=>slice_l g3 0 k3 c3 1 w 1 rfl (by omega) (by omega) (by omega)
     simp only [Nat.zero_add] at hsl
     have hcut:=Lib.hid (put_cut o3)
     clear hg3)
  | (go_at_call 143; (with_reducible refine (sum_any _ _ _ _ _ _ hcut.out (by unfold maxLen; omega)).mono ?_); rintro e w' ⟨rfl,rfl⟩
     generalize hs:Crc.sum ([1,UInt8.ofNat n]++l)=s at *
     have HS:=Lib.hid hs
     have H2:=Lib.hid (two_bytes2 s)
     clear hs)
  | (at_builtin
     refine wpList_append_b rfl (.tmp 26) (.tmp 32) rfl w.heap.size _ k3 c3 _ rfl (o3.alloc _) (w3.heap.size+1) (some ⟨w3.heap.size,0,none⟩) 2 2 [hi s,lo s] rfl (reads_new_b w3 _ _ 5 (0,0) 2 H2.out rfl) (by omega) (by simp; omega) ?_
     intro A4 k4 c4 w4 hk4 hk4' o4 hg4 _
     have hb4:Below w.heap.size w w4:=(hb3.alloc hs3 _).grown hg4 (by simp; omega) (fun g hg=>(o3.lt g hg).1)
     clear hg4))
 go_ret2
 refine ⟨A4,k4,c4,rfl,?_,hb4⟩
 have e:put l=[]++[165,1,UInt8.ofNat n]++l++[hi s,lo s]:=by
  rw [← HS.out,← HL.out]; simp [put]
 rw [e]; exact o4
end
section
namespace SE
open Go.RowKit
set_option maxHeartbeats 0
variable {X:Px} {own0:Nat→Prop} {w0 w w':World} {E:Env} {st:SE.St}
def lenR (st:SE.St) (v:SV) (a b:Int):Bool :=
 match byteIn st v with
 | some l=>match rngI st l with
  | some (lo,hi)=>decide (a≤lo)&&decide (hi≤b)
  | none=>false
 | none=>false
theorem lenR_ok (g:G X own0 w0 E st w) {x:SV} {u:Value} {a b:Int} (h:lenR st x a b=true) (hr:R E x u) :
  ∃ base ln c,u=.slice base ln c∧a≤(ln:Int)∧(ln:Int)≤b∧ln≤c∧ByteRow w base ln∧∀ p,base=some p→p.block<w.heap.size:=by
 unfold lenR at h
 split at h
 ·rename_i l hb
  split at h
  ·rename_i lo hi hl
   simp only [Bool.and_eq_true,decide_eq_true_eq] at h
   obtain ⟨base,ln,c,h1,h2,h3,h4,h5⟩:=byteIn_ok g hb hr
   have:=rngI_ok g hl h2
   exact ⟨base,ln,c,h1,by omega,by omega,h3,h4,h5⟩
  ·cases h
 ·cases h
def isFresh (st:SE.St) (v:SV):Bool :=
 match v with
 | .nils=>true
 | .sl i=>match lk st.sls i with
  | some (.row b _)=>match lk st.heap b with
   | some (.row ..)=>true
   | _=>false
  | _=>false
 | .slc b _ _ _=>match lk st.heap b with
  | some (.cells ..)=>true
  | _=>false
 | _=>false
theorem fresh_ok (g:G X (fun _=>False) w0 E st w) {x:SV} {base:Option Addr} {ln c:Nat} (h:isFresh st x=true) (hr:R E x (.slice base ln c)):∀ p,base=some p→w0.heap.size≤p.block:=by
 intro p hp
 subst hp
 unfold isFresh at h
 split at h
 ·simp only [R] at hr; cases hr
 ·rename_i i
  simp only [R] at hr
  obtain ⟨b',l',c',hE,he⟩:=hr
  cases he
  split at h
  ·rename_i b len hl
   obtain ⟨n,cap,hb,hE'⟩:=g.sls i _ hl
   rw [hE] at hE'
   cases hE'
   split at h
   ·rename_i hh
    rcases (g.hown hh hb).2 with q | q | q
    ·cases q
    ·exact q.elim
    ·exact q
   ·cases h
  ·cases h
 ·rename_i b off len cap
  simp only [R] at hr
  obtain ⟨n,hn,he⟩:=hr
  cases he
  split at h
  ·rename_i hh
   rcases (g.hown hh hn).2 with q | q | q
   ·cases q
   ·exact q.elim
   ·exact q
  ·cases h
 ·cases h
def NewRow (w w':World) (a b:Nat) (v:Value):Prop :=
 ∃ base ln c,v=.slice base ln c∧a≤ln∧ln≤b∧ln≤c∧ByteRow w' base ln∧∀ p,base=some p→p.block<w'.heap.size∧w.heap.size≤p.block
theorem new_of (g:G X (fun _=>False) w E st w') {x:SV} {u:Value} {a b:Nat} (h:lenR st x (Int.ofNat a) (Int.ofNat b)=true) (hf:isFresh st x=true) (hr:R E x u):NewRow w w' a b u:=by
 obtain ⟨base,ln,c,rfl,h1,h2,h3,h4,h5⟩:=lenR_ok g h hr
 simp only [Int.ofNat_eq_natCast] at h1 h2
 exact ⟨base,ln,c,rfl,by omega,by omega,h3,h4,fun p hp=>⟨h5 p hp,fresh_ok g hf hr p hp⟩⟩
theorem G.newRow (g:G X own0 w0 E st w) (g':G X own0 w0 E st w') {a b:Nat} {v:Value} (h:NewRow w w' a b v) :
  ∃ E',E.le E'∧R E' (.sl st.nid) v∧G X own0 w0 E' { st with sls:=(st.nid,.bytes (.r (Int.ofNat a) (Int.ofNat b)))::st.sls,nid:=st.nid+1 } w':=by
 obtain ⟨base,ln,c,rfl,h1,h2,h3,h4,h5⟩:=h
 exact g'.addBytes (si_r h1 h2) h3 h4 fun x hx=>⟨(h5 x hx).1,fun bid blk hl hc=>by
  have:=(g.hown hl hc).1
  have:=(h5 x hx).2
  omega⟩
def openO (o:SV×SE.St):Bool :=
 match o.1 with
 | .tup [.nils,.int .i64 (.r a b)]=>decide (a=14)&&decide (b=14)
 | .tup [v,.int .i64 (.r a b)]=>decide (a=0)&&(decide (b=0)&&(lenR o.2 v (Int.ofNat 0) (Int.ofNat 24)&&isFresh o.2 v))
 | _=>false
def openO' (o:SV×SE.St):Bool :=
 openO o||(match o.1 with
 | .tup [.nils,.int .i64 (.r a b)]=>decide (a=0)&&decide (b=0)
 | _=>false)
def allO (f:SV×SE.St→Bool):Out→Bool
 | []=>true
 | o::l=>f o&&allO f l
theorem allO_ok {f:SV×SE.St→Bool}:∀ {l:Out},allO f l=true→∀ o∈l,f o=true
 | x::l,h,o,ho=>by
  simp only [allO,Bool.and_eq_true] at h
  rcases List.mem_cons.1 ho with rfl | ho
  ·exact h.1
  ·exact allO_ok h.2 o ho
def runO (f:SV×SE.St→Bool):Option Out→Bool
 | some l=>allO f l
 | none=>false
noncomputable def openR (n:Nat):Bool:=runO openO' (run (XK kN2).T 60 108 [bytesS 32,I64,.sl 0] (oneSt n n))
end SE
end
section
namespace SE
open Go.RowKit
set_option maxHeartbeats 0
theorem open_a:allN openR 0 12=true:=by decide +kernel
end SE
end
end Go.Proofs.YtdgejnakakjgfaaGreatDoor
