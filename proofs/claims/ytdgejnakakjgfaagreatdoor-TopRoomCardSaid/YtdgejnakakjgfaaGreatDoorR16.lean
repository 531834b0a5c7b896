/- Messages: runs for each length. -/
import Derived.Test.YtdgejnakakjgfaaGreatDoorR15
set_option linter.unusedVariables false
set_option linter.unusedSimpArgs false
set_option maxRecDepth 100000
namespace Go.Proofs.YtdgejnakakjgfaaGreatDoor
section
namespace SE
open Go.RowKit
set_option maxHeartbeats 0
variable {X:Px} {own0:Nat→Prop} {w0 w w':World} {E:Env} {st:SE.St}
noncomputable def Xb:Px:=⟨Tryz.prog,{ TW with nameB:=true },fun _ _=>False,fun _ _ _=>False⟩
theorem tabb:TabOk Xb:=tab_ok rfl rfl rfl (fun t nm r h=>by simp [Xb,TW,TC] at h) (fun nm args h=>by simp [Xb,TW] at h) (fun gg cs h E E' vs hr=>clL_ok (glT_cl gg cs h) hr) (fun t h=>by simp [Xb,TW,TC] at h)
theorem rkb:RkOk Xb where
 app:=fun nm args new st args' h=>by simp [Xb,TW] at h
 fn:=fun g h=>by simp [Xb,TW] at h
 ok:=fun g args st v h=>by simp [Xb,TW] at h
theorem tblb:Tbl (Xw fun _ _ _=>none) Xb:=⟨rfl,rfl,rfl,rfl,rfl⟩
theorem pkb:PkOk Xb where
 fn:=fun g h=>(pkw (k:=fun _ _ _=>none)).fn g h
 ok:=fun g args st v hg h own0 w0 E w g' vals hr=>(pkw (k:=fun _ _ _=>none)).ok g args st v hg h own0 w0 E w (g'.tbl tblb.symm) vals hr
theorem kb_ok:∀ own0 w0,KOk Xb own0 w0:=fun own0 w0 g args st l h=>by simp [Xb,TW] at h
def msgC (st:SE.St) (l:List SV):Bool :=
 match l with
 | [k,s,r,t,e,m,c,n,x1,x2,x3,x4] =>
  isIn st k 1 11&&(isIn st s 0 4294967295&&(isIn st r 0 3&&(isIn st t 0 4&&(isIn st e 0 65535&&(isIn st m 0 4 &&
   ((isIn st c 1 3||(isIn st k 1 10&&isIn st c 0 3))&&(isB n&&(isIn st x1 (-32768) 32767&&(isIn st x2 (-32768) 32767&&(isIn st x3 (-32768) 32767&&isIn st x4 (-32768) 32767))))))))))
 | _=>false
def zeroCells:List SV:=[N 0,N 0,N 0,N 0,N 0,N 0,N 0,.ff,N 0,N 0,N 0,N 0]
def msgO (o:SV×SE.St):Bool :=
 match o.1 with
 | .tup [.agg l,.int .i64 (.r a b)]=>(decide (a=13)&&(decide (b=13)&&SV.beqCs l zeroCells))||(decide (a=0)&&(decide (b=0)&&msgC o.2 l))
 | _=>false
noncomputable def msgR (a b:Nat):Bool:=runO msgO (run Xb.T 60 101 [.sl 0] (oneSt a b))
noncomputable def msgN (n:Nat):Bool:=msgR n n
theorem msg_a:allN msgN 0 8=true:=by decide +kernel
theorem msg_b:allN msgN 8 5=true:=by decide +kernel
theorem msg_c:allN msgN 13 5=true:=by decide +kernel
theorem msg_d:msgR 18 32=true:=by decide +kernel
end SE
end
end Go.Proofs.YtdgejnakakjgfaaGreatDoor
