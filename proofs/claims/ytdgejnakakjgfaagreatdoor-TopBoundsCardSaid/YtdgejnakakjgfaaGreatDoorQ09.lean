/- The plain law of frames: what stands at the beginning of bytes, what a frame is; no program in sight. The walks of the frame's small parts: reject, skip, bytes.IndexByte, bytes.Clone. Small functions: numbers, timers, tokens. Offers without closures; the setpoint. The policy; ranks; sets. Numbers that are used once. How far, how fast; sticks; numbers that are used once. -/
import Derived.Test.YtdgejnakakjgfaaGreatDoorProg
import Derived.Test.YtdgejnakakjgfaaGreatDoorQ08
import Derived.Lib.BytesEntry
import Derived.Laws.Externs
import Derived.Below
import Derived.Outline
import Derived.Deep.QuietTactic
import Derived.BigQuiet
import Derived.Deep.RegionHeld3
import Derived.Deep.RegionWith
import Derived.StillTailTactics
import Derived.LoopN
import Derived.Laws.StructEq
set_option linter.unusedVariables false
set_option linter.unusedSimpArgs false
set_option maxRecDepth 100000
namespace Go.Proofs.YtdgejnakakjgfaaGreatDoor
section
namespace Fr
open Crc
structure Fd where
  kind:Nat
  size:Nat
  code:Nat
  body:List UInt8
def wait:Fd:=⟨0,0,0,[]⟩
def skip (n:Nat):Fd:=⟨1,n,0,[]⟩
def frame (b:List UInt8):Fd:=⟨2,b.length+5,0,b⟩
def reject (c:Nat):Fd:=⟨3,1,c,[]⟩
def ahead:List UInt8→Nat
  | []=>0
  | c::r=>if c=165 then 0 else ahead r+1
def behind (n:UInt8) (r:List UInt8):Fd :=
  if 32<n.toNat then reject 11 else if r.length<n.toNat+2 then wait else
  if sum ([1,n]++r.take n.toNat)=up (r.getD n.toNat 0) ^^^ low (r.getD (n.toNat+1) 0) then frame (r.take n.toNat) else reject 12
def next:List UInt8→Fd
  | []=>wait
  | [c]=>if c=165 then wait else skip (ahead [c])
  | [c,v]=>if c=165 then if v=1 then wait else reject 10 else skip (ahead [c,v])
  | c::v::n::r=>if c=165 then if v=1 then behind n r else reject 10 else skip (ahead (c::v::n::r))
def put (b:List UInt8):List UInt8 :=
  [165,1,UInt8.ofNat b.length]++b++[hi (sum ([1,UInt8.ofNat b.length]++b)),lo (sum ([1,UInt8.ofNat b.length]++b))]
theorem put_length (b:List UInt8):(put b).length=b.length+5:=by simp [put]
theorem ahead_le (l:List UInt8):ahead l≤l.length:=by
  induction l with
  | nil=>simp [ahead]
  | cons c r ih=>unfold ahead; split <;> simp <;> omega
theorem ahead_append (l m:List UInt8):ahead (l++m)=if ahead l=l.length then l.length+ahead m else ahead l:=by
  induction l with
  | nil=>simp [ahead]
  | cons c r ih =>
    by_cases hc:c=165
    · have e1:ahead (c::r)=0:=by simp [ahead,hc]
      have e2:ahead ((c::r)++m)=0:=by simp [ahead,hc]
      rw [e1,e2]; simp
    · have e1:ahead (c::r)=ahead r+1:=by simp [ahead,hc]
      have e2:ahead ((c::r)++m)=ahead (r++m)+1:=by simp [ahead,hc]
      rw [e1,e2,ih]
      by_cases h:ahead r=r.length
      · simp [h]; omega
      · simp [h]
theorem behind_cases (n:UInt8) (r:List UInt8):(behind n r=reject 11∧32<n.toNat)∨(behind n r=wait∧n.toNat≤32∧r.length<n.toNat+2) ∨
    (n.toNat≤32∧n.toNat+2≤r.length∧(behind n r=frame (r.take n.toNat)∨behind n r=reject 12)):=by
  unfold behind
  by_cases h1:32<n.toNat
  · exact .inl ⟨if_pos h1,h1⟩
  · rw [if_neg h1]
    by_cases h2:r.length<n.toNat+2
    · exact .inr (.inl ⟨if_pos h2,by omega,h2⟩)
    · rw [if_neg h2]
      refine .inr (.inr ⟨by omega,by omega,?_⟩)
      split
      · exact .inl rfl
      · exact .inr rfl
theorem goes_wait (l:List UInt8) (h:(next l).kind=0):(next l).size=0∧l.length<37:=by
  match l with
  | []=>exact ⟨rfl,by simp⟩
  | [c] =>
    by_cases hc:c=165
    · simp [next,hc,wait]
    · simp [next,hc,skip] at h
  | [c,v] =>
    by_cases hc:c=165
    · by_cases hv:v=1
      · simp [next,hc,hv,wait]
      · simp [next,hc,hv,reject] at h
    · simp [next,hc,skip] at h
  | c :: v::n::r =>
    by_cases hc:c=165
    · by_cases hv:v=1
      · simp only [next,hc,hv,if_true] at h ⊢
        rcases behind_cases n r with ⟨h1,_⟩ | ⟨h1,h2,h3⟩ | ⟨_,_,h1 | h1⟩
        · rw [h1] at h; simp [reject] at h
        · rw [h1]; exact ⟨rfl,by simp; omega⟩
        · rw [h1] at h; simp [frame] at h
        · rw [h1] at h; simp [reject] at h
      · simp [next,hc,hv,reject] at h
    · simp [next,hc,skip] at h
theorem goes_size (l:List UInt8) (h:(next l).kind≠0):1≤(next l).size∧(next l).size≤l.length:=by
  have hs:∀ (c:UInt8) (r:List UInt8),c≠165→1≤ahead (c::r)∧ahead (c::r)≤(c::r).length:=fun c r hc =>
    ⟨by simp [ahead,hc],ahead_le _⟩
  match l with
  | []=>exact absurd rfl h
  | [c] =>
    by_cases hc:c=165
    · simp [next,hc,wait] at h
    · simp only [next,hc,if_false,skip]; exact hs _ _ hc
  | [c,v] =>
    by_cases hc:c=165
    · by_cases hv:v=1
      · simp [next,hc,hv,wait] at h
      · simp [next,hc,hv,reject]
    · simp only [next,hc,if_false,skip]; exact hs _ _ hc
  | c :: v::n::r =>
    by_cases hc:c=165
    · by_cases hv:v=1
      · simp only [next,hc,hv,if_true] at h ⊢
        rcases behind_cases n r with ⟨h1,_⟩ | ⟨h1,h2,h3⟩ | ⟨h2,h3,h1 | h1⟩
        · rw [h1]; simp [reject]
        · rw [h1] at h; exact absurd rfl h
        · rw [h1]; simp [frame]; omega
        · rw [h1]; simp [reject]
      · simp [next,hc,hv,reject]
    · simp only [next,hc,if_false,skip]; exact hs _ _ hc
theorem behind_more (n:UInt8) (r m:List UInt8) (h:behind n r≠wait):behind n (r++m)=behind n r:=by
  rcases behind_cases n r with ⟨h1,h2⟩ | ⟨h1,h2,h3⟩ | ⟨h2,h3,_⟩
  · rw [h1]; unfold behind; rw [if_pos h2]
  · exact absurd h1 h
  · unfold behind
    have e1:(r++m).take n.toNat=r.take n.toNat:=by rw [List.take_append_of_le_length (by omega)]
    have e2:(r++m).getD n.toNat 0=r.getD n.toNat 0:=by simp [List.getD_eq_getElem?_getD,List.getElem?_append_left (show n.toNat<r.length by omega)]
    have e3:(r++m).getD (n.toNat+1) 0=r.getD (n.toNat+1) 0:=by simp [List.getD_eq_getElem?_getD,List.getElem?_append_left (show n.toNat+1<r.length by omega)]
    rw [e1,e2,e3]
    have h4:¬ 32<n.toNat:=by omega
    have h5:¬ (r++m).length<n.toNat+2:=by rw [List.length_append]; omega
    have h6:¬ r.length<n.toNat+2:=by omega
    rw [if_neg h4,if_neg h5,if_neg h4,if_neg h6]
theorem goes_more (l m:List UInt8) (h0:(next l).kind≠0) (h1:(next l).kind≠1):next (l++m)=next l:=by
  match l with
  | []=>exact absurd rfl h0
  | [c] =>
    by_cases hc:c=165
    · simp [next,hc,wait] at h0
    · simp [next,hc,skip] at h1
  | [c, v] =>
    by_cases hc:c=165
    · by_cases hv:v=1
      · simp [next,hc,hv,wait] at h0
      · match m with
        | []=>simp
        | n::r=>simp [next,hc,hv]
    · simp [next,hc,skip] at h1
  | c :: v::n::r =>
    by_cases hc:c=165
    · by_cases hv:v=1
      · simp only [List.cons_append,next,hc,hv,if_true] at h0 ⊢
        exact behind_more n r m (fun e=>h0 (by rw [e]; rfl))
      · simp [next,hc,hv]
    · simp [next,hc,skip] at h1
theorem next_skip (l:List UInt8) (h:(next l).kind=1):l≠[]∧l.head?≠some 165∧next l=skip (ahead l):=by
  match l with
  | []=>simp [next,wait] at h
  | [c] =>
    by_cases hc:c=165
    · simp [next,hc,wait] at h
    · simp [next,hc]
  | [c,v] =>
    by_cases hc:c=165
    · by_cases hv:v=1
      · simp [next,hc,hv,wait] at h
      · simp [next,hc,hv,reject] at h
    · simp [next,hc]
  | c :: v::n::r =>
    by_cases hc:c=165
    · by_cases hv:v=1
      · simp only [next,hc,hv,if_true] at h
        rcases behind_cases n r with ⟨h1,_⟩ | ⟨h1,h2,h3⟩ | ⟨h2,h3,h1 | h1⟩ <;> rw [h1] at h <;> simp [reject,wait,frame] at h
      · simp [next,hc,hv,reject] at h
    · simp [next,hc]
theorem next_of_head (c:UInt8) (r:List UInt8) (hc:c≠165):next (c::r)=skip (ahead (c::r)):=by
  match r with
  | []=>simp [next,hc]
  | [v]=>simp [next,hc]
  | v::n::r=>simp [next,hc]
theorem goes_skip (l m:List UInt8) (h:(next l).kind=1):(next (l++m)).kind=1∧(next l).size≤(next (l++m)).size∧((next (l++m)).size=(next l).size∨(next l).size=l.length):=by
  obtain ⟨h1,h2,h3⟩:=next_skip l h
  match l,h1 with
  | c :: r,_ =>
    have hc:c≠165:=by simpa using h2
    have e:next (c::r++m)=skip (ahead (c::r++m)):=next_of_head c (r++m) hc
    rw [e,h3]
    refine ⟨rfl,?_,?_⟩
    · show ahead (c::r)≤ahead (c::r++m)
      rw [ahead_append]; split <;> omega
    · show ahead (c::r++m)=ahead (c::r)∨ahead (c::r)=(c::r).length
      rw [ahead_append]
      by_cases hh:ahead (c::r)=(c::r).length
      · exact .inr hh
      · rw [if_neg hh]; exact .inl rfl
theorem ofNat_toNat (n:Nat) (h:n≤32):(UInt8.ofNat n).toNat=n:=by simp; omega
end Fr
end
section
open Go.RowKit Crc Fr
theorem bcell {W w1:World} (hb:Below W.heap.size W w1):(∀ b o,b<W.heap.size→w1.cell? ⟨b,o,none⟩=W.cell? ⟨b,o,none⟩)∧(∀ b o,b<W.heap.size→w1.frozen? ⟨b,o,none⟩=W.frozen? ⟨b,o,none⟩) :=
  ⟨fun b o h=>hb.cell (p:=⟨b,o,none⟩) h,fun b o h=>hb.frozen (p:=⟨b,o,none⟩) h⟩
set_option maxHeartbeats 400000 in
theorem reject_any (code:Int) (w:World) :
    Calls Tryz.prog 99 #[.int .i64 code] w fun e w'=>e=.returned (.agg #[.int .i64 3,.int .i64 1,.int .i64 code,.slice none 0 0])∧Below w.heap.size w w':=by
  go_enter Tryz.func99,Tryz.ntmps99
  go_wp2
  exact bodyPost_ret (v:=.agg #[.int .i64 3,.int .i64 1,.int .i64 code,.slice none 0 0]) (by simp [results,Tryz.results99,go_sem]) rfl ⟨rfl,(Below.refl _ _).alloc (Nat.le_refl _) _⟩
theorem bytesOf_bv (l:List UInt8):Lib.bytesOf (l.map fun c=>(c.toNat:Int))=l:=by
  unfold Lib.bytesOf
  rw [List.map_map]
  conv=>rhs; rw [← List.map_id l]
  apply List.map_congr_left
  intro c _
  simp
theorem indexByte_ahead (l:List UInt8):Lib.indexByte l 165=if Fr.ahead l=l.length then -1 else (Fr.ahead l:Int):=by
  induction l with
  | nil=>simp [Lib.indexByte,Fr.ahead]
  | cons c r ih =>
    have hle:=ahead_le r
    unfold Lib.indexByte
    rw [ih]
    by_cases hc:c=165
    · subst hc; simp [Fr.ahead]
    · have e1:Fr.ahead (c::r)=Fr.ahead r+1:=by simp [Fr.ahead,hc]
      rw [e1]
      by_cases h:Fr.ahead r=r.length
      · simp [h,hc]
      · simp [h,hc]
theorem run_index_any (P:Program) (w:World) (B:Nat) (A:Option Addr) (n c:Nat) (l:List UInt8) (hr:Reads w B 1 A n (l.map bv)) (cv:Int) :
    (Extern.BytealgIndexByte.indexByte #[.slice A n c,.int .u8 cv]).run P w=.ok (.int .i64 (Lib.indexByte l cv.toNat.toUInt8)) w:=by
  have hl:l.length=n:=by simpa using hr.1
  rcases A with _ | a
  · have h0:n=0:=by
      rcases Nat.eq_zero_or_pos n with h | h
      · exact h
      · obtain ⟨_,h1,_⟩:=hr.2 h; cases h1
    subst h0
    obtain rfl:l=[]:=List.eq_nil_of_length_eq_zero hl
    exact Lib.run_indexByteNil w 0 c cv
  · have hcells:∀ j x,(l.map fun c=>(c.toNat:Int))[j]?=some x→w.cell? (a.add j)=some (.int .u8 x):=by
      intro j x hj
      rw [List.getElem?_map,Option.map_eq_some_iff] at hj
      obtain ⟨u,hu,rfl⟩:=hj
      have hjl:=(List.getElem?_eq_some_iff.1 hu).1
      obtain ⟨ad,u',e,_,h2,h3⟩:=hr.at_ (k:=j) (by omega)
      injection e with e
      subst e
      rw [h3]
      rw [List.getElem?_map,hu] at h2
      exact h2.symm
    have hl1:=Lib.run_loadBytesX (P:=P) w (l.map fun c=>(c.toNat:Int)) a .empty hcells
    rw [List.length_map,hl,bytesOf_bv] at hl1
    have hs:=Lib.run_indexByteString (P:=P) ⟨l.toArray⟩ cv w
    have he:(⟨ByteArray.empty.data++l.toArray⟩:ByteArray)=⟨l.toArray⟩:=by
      apply ByteArray.ext
      show (#[]:Array UInt8)++l.toArray=l.toArray
      simp
    rw [he] at hl1
    change Sem.run P (do
      let b←Extern.Bytes.bytesOf (.slice (some a) n c)
      let c←Extern.Bytes.asByte (.int .u8 cv)
      match (List.range b.size).find? fun i=>b[i]! == c with
      | some i=>pure (goInt i)
      | none=>pure (goInt (-1))) w=_
    change Sem.run P (do
      let b←Extern.Bytes.bytesOf (.string ⟨l.toArray⟩)
      let c←Extern.Bytes.asByte (.int .u8 cv)
      match (List.range b.size).find? fun i=>b[i]! == c with
      | some i=>pure (goInt i)
      | none=>pure (goInt (-1))) w=_ at hs
    simp only [Extern.Bytes.bytesOf,Sem.run_bind,Sem.run_pure,hl1,Result.andThen] at hs ⊢
    exact hs
set_option maxHeartbeats 400000 in
theorem index_any (B:Nat) (A:Option Addr) (n c:Nat) (l:List UInt8) (w:World) (hr:Reads w B 1 A n (l.map bv)) :
    Calls Tryz.prog 145 #[.slice A n c,.int .u8 165] w fun e w'=>e=.returned (.int .i64 (if Fr.ahead l=l.length then -1 else (Fr.ahead l:Int)))∧w=w':=by
  have hx:=run_index_any Tryz.prog w B A n c l hr 165
  rw [show ((165:Int).toNat.toUInt8)=165 by decide,indexByte_ahead] at hx
  have HX:=Lib.hid hx
  clear hx hr
  generalize (if Fr.ahead l=l.length then (-1:Int) else (Fr.ahead l:Int))=v at *
  go_enter Tryz.func145,Tryz.ntmps145
  go_wp2
  rw [run_callFunc_extern Tryz.func188 (by kernel_rfl) (by kernel_rfl) (by kernel_rfl) (e:=Extern.BytealgIndexByte.indexByte) (by kernel_rfl),HX.out]
  simp only [Result.andThen]
  rw [Oper.upon_value]
  go_wp2
  go_ret
  exact ⟨rfl,rfl⟩
set_option maxHeartbeats 400000 in
theorem skip_any (B:Nat) (A:Option Addr) (n c:Nat) (l:List UInt8) (w:World) (hr:Reads w B 1 A n (l.map bv)) (hB:B≤w.heap.size) (_hn:n≤maxLen) :
    Calls Tryz.prog 100 #[.slice A n c] w fun e w'=>e=.returned (.agg #[.int .i64 1,.int .i64 (Fr.ahead l:Int),.int .i64 0,.slice none 0 0])∧Below w.heap.size w w':=by
  have hl:l.length=n:=by simpa using hr.1
  have hle:=ahead_le l
  have HR:=Lib.hid (fun o=>hr.alloc hB o)
  clear hr
  by_cases h:Fr.ahead l=l.length
  · have HI:=Lib.hid (fun w B A n c hr=>index_any B A n c l w hr)
    simp only [if_pos h] at HI
    have HL:=Lib.hid (h.trans hl)
    clear h hl
    rw [HL.out]
    go_enter Tryz.func100,Tryz.ntmps100
    go_wp2_with (go_at_call 145; (with_reducible refine (HI.out _ _ _ _ _ (HR.out _)).mono ?_); rintro e w' ⟨rfl,rfl⟩)
    exact bodyPost_ret (v:=.agg #[.int .i64 1,.int .i64 (n:Int),.int .i64 0,.slice none 0 0]) (by simp [results,Tryz.results100,go_sem]) rfl ⟨rfl,(Below.refl _ _).alloc (Nat.le_refl _) _⟩
  · have HI:=Lib.hid (fun w B A n c hr=>index_any B A n c l w hr)
    simp only [if_neg h] at HI
    have h1:Fr.ahead l<n:=by omega
    clear h hl hle
    generalize Fr.ahead l=m at *
    go_enter Tryz.func100,Tryz.ntmps100
    go_wp2_with (go_at_call 145; (with_reducible refine (HI.out _ _ _ _ _ (HR.out _)).mono ?_); rintro e w' ⟨rfl,rfl⟩)
    exact bodyPost_ret (v:=.agg #[.int .i64 1,.int .i64 (m:Int),.int .i64 0,.slice none 0 0]) (by simp [results,Tryz.results100,go_sem]) rfl ⟨rfl,(Below.refl _ _).alloc (Nat.le_refl _) _⟩
theorem clone_any (B:Nat) (A:Option Addr) (n c:Nat) (l:List UInt8) (w:World) (hr:Reads w B 1 A n (l.map bv)) (hB:B≤w.heap.size) (_hn:n≤100000000) :
    Calls Tryz.prog 144 #[.slice A n c] w fun e w'=>∃ A' k' c',e=.returned (.slice A' k' c')∧OwnB w' w.heap.size A' k' c' l∧Below w.heap.size w w':=by
  have q22:∀ (w:World) (a:Option Addr) (n c n' c':Nat),(binOp .eql 23 (.slice a n c) (.slice none n' c')).run Tryz.prog w=.ok (.bool a.isNone) w:=fun w a n c n' c'=>Lib.run_eql_slice_nil w _ _ a n c n' c' Tryz.underlying23
  rcases A with _ | a
  · have h0:n=0:=by
      rcases Nat.eq_zero_or_pos n with h | h
      · exact h
      · obtain ⟨_,h1,_⟩:=hr.2 h; cases h1
    subst h0
    have hl:l.length=0:=by simpa using hr.1
    obtain rfl:l=[]:=List.eq_nil_of_length_eq_zero hl
    go_enter Tryz.func144,Tryz.ntmps144
    go_wp2
    go_ret
    exact ⟨none,0,0,rfl,OwnB.nil _ _,Below.refl _ _⟩
  · go_enter Tryz.func144,Tryz.ntmps144
    go_wp2_with (at_builtin
                 refine wpList_append_b rfl (.tmp 5) (.tmp 6) rfl w.heap.size (some ⟨w.heap.size,0,none⟩) 0 0 [] rfl (OwnB.made0 w (Nat.le_refl _)) B (some a) n c l rfl (hr.alloc hB _) (by omega) (by simp) ?_
                 intro A1 k1 c1 w1 hk1 hk1' hown1 hg1 hat1
                 have hb1:Below w.heap.size w w1:=((Below.refl _ _).alloc (Nat.le_refl _) _).grown hg1 (by simp) (by simp [Value.ownBlock]))
    go_ret
    exact ⟨A1,k1,c1,rfl,by simpa using hown1,hb1⟩
end
section
open Go.RowKit
theorem below_al {w w':World} (h:Below w.heap.size w w') (o:Obj):Below w.heap.size w (w'.alloc o):=h.alloc h.size o
theorem bel_call {w W w1:World} (h:Below w.heap.size w W) (hb:Below W.heap.size W w1):Below w.heap.size w w1:=h.trans (hb.mono h.size)
theorem below_set {w w':World} (h:Below w.heap.size w w') (p:Addr) (u:Value) (hp:w.heap.size≤p.block):Below w.heap.size w (w'.setCell p u):=h.setCell hp u
def sat (n m:Int):Int:=if n<m then n+1 else m
theorem sat_any (n m:Int) (w:World) (hm:m≤5000000000) (hn:-5000000000≤n):Calls Tryz.prog 73 #[.int .i64 n,.int .i64 m] w fun e w'=>e=.returned (.int .i64 (sat n m))∧w=w':=by
  by_cases h:n<m
  · have e:sat n m=n+1:=by unfold sat; rw [if_pos h]
    rw [e]
    go_enter Tryz.func73,Tryz.ntmps73
    go_wp2
    go_ret
    exact ⟨rfl,rfl⟩
  · have e:sat n m=m:=by unfold sat; rw [if_neg h]
    rw [e]
    go_enter Tryz.func73,Tryz.ntmps73
    go_wp2
    go_ret
    exact ⟨rfl,rfl⟩
def clamp (n lo hi:Int):Int:=if n<lo then lo else if hi<n then hi else n
theorem clamp_any (n lo hi:Int) (w:World):Calls Tryz.prog 170 #[.int .i64 n,.int .i64 lo,.int .i64 hi] w fun e w'=>e=.returned (.int .i64 (clamp n lo hi))∧w=w':=by
  by_cases h:n<lo
  · have e:clamp n lo hi=lo:=by unfold clamp; rw [if_pos h]
    rw [e]
    go_enter Tryz.func170,Tryz.ntmps170
    go_wp2
    go_ret
    exact ⟨rfl,rfl⟩
  · by_cases h2:hi<n
    · have e:clamp n lo hi=hi:=by unfold clamp; rw [if_neg h,if_pos h2]
      rw [e]
      go_enter Tryz.func170,Tryz.ntmps170
      go_wp2
      go_ret
      exact ⟨rfl,rfl⟩
    · have e:clamp n lo hi=n:=by unfold clamp; rw [if_neg h,if_neg h2]
      rw [e]
      go_enter Tryz.func170,Tryz.ntmps170
      go_wp2
      go_ret
      exact ⟨rfl,rfl⟩
theorem clamp_in (n m:Int) (hm:0≤m):-m≤clamp n (-m) m∧clamp n (-m) m≤m:=by unfold clamp; split <;> (try split) <;> omega
theorem below_fn (n b:Int) (w:World):Calls Tryz.prog 148 #[.int .i64 n,.int .i64 b] w fun e w'=>e=.returned (.bool (decide (0≤n∧n<b)))∧w=w':=by
  by_cases h:0≤n
  · by_cases h2:n<b
    · rw [decide_eq_true ⟨h,h2⟩]
      go_enter Tryz.func148,Tryz.ntmps148
      go_wp2
      go_ret
      exact ⟨rfl,rfl⟩
    · rw [decide_eq_false (fun x=>h2 x.2)]
      go_enter Tryz.func148,Tryz.ntmps148
      go_wp2
      go_ret
      exact ⟨rfl,rfl⟩
  · rw [decide_eq_false (fun x=>h x.1)]
    go_enter Tryz.func148,Tryz.ntmps148
    go_wp2
    go_ret
    exact ⟨rfl,rfl⟩
structure Tm where
  at_:Int
  most:Int
structure Tok where
  holder:Int
  epoch:Int
  offer:Int
  oa:Tm
  la:Tm
  bad:Bool
def Tok.endOffer (t:Tok):Tok:={ t with offer:=-1,oa:=⟨0,0⟩ }
end
section
open Go.RowKit
theorem below_dr {w w':World} (h:Below w.heap.size w w'):Below w.heap.size w w'.drew:=⟨h.os,h.tape,h.output,h.size,h.block⟩
def Tok.drop (t:Tok) (src:Int):Tok×Bool:=if 0≤t.offer∧t.offer=src then (t.endOffer,true) else (t,false)
structure Lb where
  rule:Int
  src:Int
  seq:Int
structure Pt where
  cls:Int
  t0:Int
  t1:Int
  t2:Int
  t3:Int
  n0:Int
  n1:Int
  n2:Int
  n3:Int
  by_:Lb
end
section
open Go.RowKit
def pI (pc:Array Value) (i:Nat):Int:=match pc[i]? with | some (.int .i64 n)=>n | _=>0
def PolOk (pc:Array Value):Prop:=pc.size=56∧∀ i,i<56→(i<5∨9≤i)→pc[i]?=some (.int .i64 (pI pc i))
theorem PolOk.at_ {pc:Array Value} (h:PolOk pc) (i:Nat) (h1:i<56) (h2:i<5∨9≤i):pc[i]?=some (.int .i64 (pI pc i)):=h.2 i h1 h2
def rankOf (o0 o1 o2 o3 o4 s:Int):Int:=if o0=s then 0 else if o1=s then 1 else if o2=s then 2 else if o3=s then 3 else if o4=s then 4 else -1
def rank (pc:Array Value) (s:Int):Int:=rankOf (pI pc 0) (pI pc 1) (pI pc 2) (pI pc 3) (pI pc 4) s
set_option maxHeartbeats 1000000 in
theorem place_any (o0 o1 o2 o3 o4 s:Int) (w:World):Calls Tryz.prog 233 #[.agg #[.int .i64 o0,.int .i64 o1,.int .i64 o2,.int .i64 o3,.int .i64 o4],.int .i64 s] w fun e w'=>e=.returned (.int .i64 (rankOf o0 o1 o2 o3 o4 s))∧w'=w.alloc (.cells #[.int .i64 o0,.int .i64 o1,.int .i64 o2,.int .i64 o3,.int .i64 o4] 328):=by
  have i0:∀ w,(Instr.index 328 (.agg #[.int .i64 o0,.int .i64 o1,.int .i64 o2,.int .i64 o3,.int .i64 o4]) (.int .i64 0)).run Tryz.prog w=.ok (.int .i64 o0) w:=fun _=>by kernel_rfl
  have i1:∀ w,(Instr.index 328 (.agg #[.int .i64 o0,.int .i64 o1,.int .i64 o2,.int .i64 o3,.int .i64 o4]) (.int .i64 1)).run Tryz.prog w=.ok (.int .i64 o1) w:=fun _=>by kernel_rfl
  have i2:∀ w,(Instr.index 328 (.agg #[.int .i64 o0,.int .i64 o1,.int .i64 o2,.int .i64 o3,.int .i64 o4]) (.int .i64 2)).run Tryz.prog w=.ok (.int .i64 o2) w:=fun _=>by kernel_rfl
  have i3:∀ w,(Instr.index 328 (.agg #[.int .i64 o0,.int .i64 o1,.int .i64 o2,.int .i64 o3,.int .i64 o4]) (.int .i64 3)).run Tryz.prog w=.ok (.int .i64 o3) w:=fun _=>by kernel_rfl
  have i4:∀ w,(Instr.index 328 (.agg #[.int .i64 o0,.int .i64 o1,.int .i64 o2,.int .i64 o3,.int .i64 o4]) (.int .i64 4)).run Tryz.prog w=.ok (.int .i64 o4) w:=fun _=>by kernel_rfl
  by_cases h0:o0=s
  · have e:rankOf o0 o1 o2 o3 o4 s=0:=by unfold rankOf; rw [if_pos h0]
    have b0:(o0 == s)=true:=by simpa using h0
    rw [e]
    clear e h0
    go_enter Tryz.func233,Tryz.ntmps233
    go_wp2
    refine wp_loop_rounds 5 ?_
    rw [rounds_succ]
    go_wp2
    go_ret
    exact ⟨rfl,rfl⟩
  · have b0 : (o0 == s)=false:=by simpa using h0
    by_cases h1:o1=s
    · have e:rankOf o0 o1 o2 o3 o4 s=1:=by unfold rankOf; rw [if_neg h0,if_pos h1]
      have b1:(o1 == s)=true:=by simpa using h1
      rw [e]
      clear e h0 h1
      go_enter Tryz.func233,Tryz.ntmps233
      go_wp2
      refine wp_loop_rounds 5 ?_
      rw [rounds_succ]
      go_wp2
      rw [rounds_succ]
      go_wp2
      go_ret
      exact ⟨rfl,rfl⟩
    · have b1:(o1 == s)=false:=by simpa using h1
      by_cases h2:o2=s
      · have e:rankOf o0 o1 o2 o3 o4 s=2:=by unfold rankOf; rw [if_neg h0,if_neg h1,if_pos h2]
        have b2:(o2 == s)=true:=by simpa using h2
        rw [e]
        clear e h0 h1 h2
        go_enter Tryz.func233,Tryz.ntmps233
        go_wp2
        refine wp_loop_rounds 5 ?_
        rw [rounds_succ]
        go_wp2
        rw [rounds_succ]
        go_wp2
        rw [rounds_succ]
        go_wp2
        go_ret
        exact ⟨rfl,rfl⟩
      · have b2:(o2 == s)=false:=by simpa using h2
        by_cases h3:o3=s
        · have e:rankOf o0 o1 o2 o3 o4 s=3:=by unfold rankOf; rw [if_neg h0,if_neg h1,if_neg h2,if_pos h3]
          have b3:(o3 == s)=true:=by simpa using h3
          rw [e]
          clear e h0 h1 h2 h3
          go_enter Tryz.func233,Tryz.ntmps233
          go_wp2
          refine wp_loop_rounds 5 ?_
          rw [rounds_succ]
          go_wp2
          rw [rounds_succ]
          go_wp2
          rw [rounds_succ]
          go_wp2
          rw [rounds_succ]
          go_wp2
          go_ret
          exact ⟨rfl,rfl⟩
        · have b3:(o3 == s)=false:=by simpa using h3
          by_cases h4:o4=s
          · have e:rankOf o0 o1 o2 o3 o4 s=4:=by unfold rankOf; rw [if_neg h0,if_neg h1,if_neg h2,if_neg h3,if_pos h4]
            have b4:(o4 == s)=true:=by simpa using h4
            rw [e]
            clear e h0 h1 h2 h3 h4
            go_enter Tryz.func233,Tryz.ntmps233
            go_wp2
            refine wp_loop_rounds 5 ?_
            rw [rounds_succ]
            go_wp2
            rw [rounds_succ]
            go_wp2
            rw [rounds_succ]
            go_wp2
            rw [rounds_succ]
            go_wp2
            rw [rounds_succ]
            go_wp2
            go_ret
            exact ⟨rfl,rfl⟩
          · have b4:(o4 == s)=false:=by simpa using h4
            have e:rankOf o0 o1 o2 o3 o4 s=-1:=by unfold rankOf; rw [if_neg h0,if_neg h1,if_neg h2,if_neg h3,if_neg h4]
            rw [e]
            clear e h0 h1 h2 h3 h4
            go_enter Tryz.func233,Tryz.ntmps233
            go_wp2
            refine wp_loop_rounds 6 ?_
            rw [rounds_succ]
            go_wp2
            rw [rounds_succ]
            go_wp2
            rw [rounds_succ]
            go_wp2
            rw [rounds_succ]
            go_wp2
            rw [rounds_succ]
            go_wp2
            rw [rounds_succ]
            go_wp2
            go_ret
            exact ⟨rfl,rfl⟩
theorem place_n (o0 o1 o2 o3 o4 s r:Int) (w:World) (h:rankOf o0 o1 o2 o3 o4 s=r):Calls Tryz.prog 233 #[.agg #[.int .i64 o0,.int .i64 o1,.int .i64 o2,.int .i64 o3,.int .i64 o4],.int .i64 s] w fun e w'=>e=.returned (.int .i64 r)∧w'=w.alloc (.cells #[.int .i64 o0,.int .i64 o1,.int .i64 o2,.int .i64 o3,.int .i64 o4] 328):=by
  rw [← h]; exact place_any o0 o1 o2 o3 o4 s w
set_option maxHeartbeats 1000000 in
theorem rank_any (pc:Array Value) (s:Int) (w:World) (hp:PolOk pc):Calls Tryz.prog 206 #[.agg pc,.int .i64 s] w fun e w'=>e=.returned (.int .i64 (rank pc s))∧Below w.heap.size w w':=by
  have p0:=hp.at_ 0 (by omega) (by omega)
  have p1:=hp.at_ 1 (by omega) (by omega)
  have p2:=hp.at_ 2 (by omega) (by omega)
  have p3:=hp.at_ 3 (by omega) (by omega)
  have p4:=hp.at_ 4 (by omega) (by omega)
  clear hp
  go_enter Tryz.func206,Tryz.ntmps206
  go_wp2_with (go_at_call 233; (with_reducible refine (place_any (pI pc 0) (pI pc 1) (pI pc 2) (pI pc 3) (pI pc 4) s _).mono ?_); rintro e w' ⟨rfl,rfl⟩)
  go_ret
  exact ⟨rfl,by (repeat (first | (with_reducible assumption) | (with_reducible refine below_set ?_ _ _ (by simp)) | (with_reducible refine below_al ?_ _) | (with_reducible refine below_dr ?_) | (with_reducible exact Below.refl _ _) | (with_reducible refine bel_call ?_ (by assumption))))⟩
def higher (pc:Array Value) (a b:Int):Bool:=decide (0≤rank pc a∧0≤rank pc b∧rank pc a<rank pc b)
theorem rank_ge (pc:Array Value) (s:Int):-1≤rank pc s∧rank pc s≤4:=by
  unfold rank rankOf
  repeat (first | split | omega)
  all_goals omega
set_option maxHeartbeats 4000000 in
theorem higher_any (pc:Array Value) (a b:Int) (w:World) (hp:PolOk pc):Calls Tryz.prog 204 #[.agg pc,.int .i64 a,.int .i64 b] w fun e w'=>e=.returned (.bool (higher pc a b))∧Below w.heap.size w w':=by
  have p0:=hp.at_ 0 (by omega) (by omega)
  have p1:=hp.at_ 1 (by omega) (by omega)
  have p2:=hp.at_ 2 (by omega) (by omega)
  have p3:=hp.at_ 3 (by omega) (by omega)
  have p4:=hp.at_ 4 (by omega) (by omega)
  have hra:=rank_ge pc a
  have hrb:=rank_ge pc b
  clear hp
  obtain ⟨ra,ha⟩:∃ ra,rank pc a=ra:=⟨_,rfl⟩
  obtain ⟨rb,hb⟩:∃ rb,rank pc b=rb:=⟨_,rfl⟩
  rw [ha] at hra
  rw [hb] at hrb
  have HA:=Lib.hid (fun w=>place_n (pI pc 0) (pI pc 1) (pI pc 2) (pI pc 3) (pI pc 4) a ra w ha)
  have HB:=Lib.hid (fun w=>place_n (pI pc 0) (pI pc 1) (pI pc 2) (pI pc 3) (pI pc 4) b rb w hb)
  have he:higher pc a b=decide (0≤ra∧0≤rb∧ra<rb):=by unfold higher; rw [ha,hb]
  rw [he]
  clear he ha hb
  go_enter Tryz.func204,Tryz.ntmps204
  go_wp2
  go_region_with (first
    | (go_at_call 233; (with_reducible refine (HA.out _).mono ?_); rintro e w' ⟨rfl,rfl⟩)
    | (go_at_call 233; (with_reducible refine (HB.out _).mono ?_); rintro e w' ⟨rfl,rfl⟩))
  all_goals
    by_cases h1:ra=-1
    · have b1:(ra != -1)=false:=by simpa using h1
      have HD:=Lib.hid (show decide (0≤ra∧0≤rb∧ra<rb)=false from decide_eq_false (fun x=>by omega))
      clear h1
      go_wp2
      go_ret
      exact ⟨by rw [HD.out]; rfl,by (repeat (first | (with_reducible assumption) | (with_reducible refine below_set ?_ _ _ (by simp)) | (with_reducible refine below_al ?_ _) | (with_reducible refine below_dr ?_) | (with_reducible exact Below.refl _ _) | (with_reducible refine bel_call ?_ (by assumption))))⟩
    · have b1:(ra != -1)=true:=by simpa using h1
      by_cases h2:rb=-1
      · have b2:(rb != -1)=false:=by simpa using h2
        have HD:=Lib.hid (show decide (0≤ra∧0≤rb∧ra<rb)=false from decide_eq_false (fun x=>by omega))
        clear h1 h2
        go_wp2
        go_ret
        exact ⟨by rw [HD.out]; rfl,by (repeat (first | (with_reducible assumption) | (with_reducible refine below_set ?_ _ _ (by simp)) | (with_reducible refine below_al ?_ _) | (with_reducible refine below_dr ?_) | (with_reducible exact Below.refl _ _) | (with_reducible refine bel_call ?_ (by assumption))))⟩
      · have b2:(rb != -1)=true:=by simpa using h2
        have hd:decide (0≤ra∧0≤rb∧ra<rb)=decide (ra<rb):=by
          by_cases h:ra<rb
          · rw [decide_eq_true h,decide_eq_true ⟨by omega,by omega,h⟩]
          · rw [decide_eq_false h,decide_eq_false (fun x=>h x.2.2)]
        have HD:=Lib.hid hd
        clear h1 h2 hd
        go_wp2
        go_ret
        exact ⟨by rw [HD.out]; rfl,by (repeat (first | (with_reducible assumption) | (with_reducible refine below_set ?_ _ _ (by simp)) | (with_reducible refine below_al ?_ _) | (with_reducible refine below_dr ?_) | (with_reducible exact Below.refl _ _) | (with_reducible refine bel_call ?_ (by assumption))))⟩
def hasN (m i:Nat):Bool:=decide (m / 2 ^ i % 2=1)
theorem has_bits:∀ m:Nat,m<32→∀ i:Nat,i<5→(bits BinOp.and IntKind.i64 ((m:Int) / 2 ^ i) 1 == 1)=hasN m i:=by decide +kernel
theorem has_any (m i:Nat) (w:World) (hm:m<32) (hi:i<5):Calls Tryz.prog 149 #[.int .i64 m,.int .i64 i] w fun e w'=>e=.returned (.bool (hasN m i))∧w=w':=by
  have HB:=Lib.hid (has_bits m hm i hi)
  go_enter Tryz.func149,Tryz.ntmps149
  go_wp2
  go_ret
  exact ⟨by rw [← HB.out]; rfl,rfl⟩
def PolSets (pc:Array Value):Prop:=(∀ s,s<5→∃ m:Nat,m<32∧pI pc (9+s)=m)∧(∀ j,j<20→∃ m:Nat,m<32∧pI pc (14+j)=m)∧(∀ j,j<5→∃ m:Nat,m<32∧pI pc (34+j)=m)
def takes (pc:Array Value) (s r:Int):Bool:=decide (0≤s∧s<5∧0≤r∧r<4)&&hasN (pI pc (9+s.toNat)).toNat r.toNat
set_option maxHeartbeats 1000000 in
theorem takes_any (pc:Array Value) (s r:Int) (w:World) (hp:PolOk pc) (hs:PolSets pc):Calls Tryz.prog 102 #[.agg pc,.int .i64 s,.int .i64 r] w fun e w'=>e=.returned (.bool (takes pc s r))∧Below w.heap.size w w':=by
  by_cases h:0≤s∧s<5∧0≤r∧r<4
  · obtain ⟨k,rfl⟩:∃ k:Nat,s=k:=⟨s.toNat,by omega⟩
    obtain ⟨i,rfl⟩:∃ i:Nat,r=i:=⟨r.toNat,by omega⟩
    have hk:k<5:=by omega
    have hi:i<4:=by omega
    obtain ⟨m,hm,hpi⟩:=hs.1 k hk
    have p1:=hp.at_ (9+k) (by omega) (by omega)
    rw [hpi] at p1
    have e:takes pc k i=hasN m i:=by unfold takes; rw [decide_eq_true h]; simp [hpi]
    have HE:=Lib.hid e
    have d1:decide ((0:Int)≤k∧(k:Int)<5)=true:=decide_eq_true (by omega)
    have d2:decide ((0:Int)≤i∧(i:Int)<4)=true:=decide_eq_true (by omega)
    have HB1:=Lib.hid (fun w=>(d1 ▸ below_fn k 5 w:Calls Tryz.prog 148 #[.int .i64 k,.int .i64 5] w fun e w'=>e=.returned (.bool true)∧w=w'))
    have HB2:=Lib.hid (fun w=>(d2 ▸ below_fn i 4 w:Calls Tryz.prog 148 #[.int .i64 i,.int .i64 4] w fun e w'=>e=.returned (.bool true)∧w=w'))
    clear e h hp hs hpi d1 d2
    go_enter Tryz.func102,Tryz.ntmps102
    go_wp2_with (first
      | (go_at_call 148; (with_reducible refine (HB1.out _).mono ?_); rintro e w' ⟨rfl,rfl⟩)
      | (go_at_call 148; (with_reducible refine (HB2.out _).mono ?_); rintro e w' ⟨rfl,rfl⟩)
      | (go_at_call 149; (with_reducible refine (has_any m i _ hm (by omega)).mono ?_); rintro e w' ⟨rfl,rfl⟩))
    go_ret
    exact ⟨by rw [HE.out]; rfl,by (repeat (first | (with_reducible assumption) | (with_reducible refine below_set ?_ _ _ (by simp)) | (with_reducible refine below_al ?_ _) | (with_reducible refine below_dr ?_) | (with_reducible exact Below.refl _ _) | (with_reducible refine bel_call ?_ (by assumption))))⟩
  · have e:takes pc s r=false:=by unfold takes; rw [decide_eq_false h]; rfl
    have HE:=Lib.hid e
    clear e hp hs
    by_cases h1:0≤s∧s<5
    · obtain ⟨h1,h1'⟩:=h1
      have h2:¬ (0≤r∧r<4):=fun x=>h ⟨h1,h1',x.1,x.2⟩
      clear h
      have d1:decide (0≤s∧s<5)=true:=decide_eq_true ⟨h1,h1'⟩
      have d2:decide (0≤r∧r<4)=false:=decide_eq_false h2
      have HB1:=Lib.hid (fun w=>(d1 ▸ below_fn s 5 w:Calls Tryz.prog 148 #[.int .i64 s,.int .i64 5] w fun e w'=>e=.returned (.bool true)∧w=w'))
      have HB2:=Lib.hid (fun w=>(d2 ▸ below_fn r 4 w:Calls Tryz.prog 148 #[.int .i64 r,.int .i64 4] w fun e w'=>e=.returned (.bool false)∧w=w'))
      clear h1 h1' h2 d1 d2
      go_enter Tryz.func102,Tryz.ntmps102
      go_wp2_with (first
        | (go_at_call 148; (with_reducible refine (HB1.out _).mono ?_); rintro e w' ⟨rfl,rfl⟩)
        | (go_at_call 148; (with_reducible refine (HB2.out _).mono ?_); rintro e w' ⟨rfl,rfl⟩))
      go_ret
      exact ⟨by rw [HE.out]; rfl,by (repeat (first | (with_reducible assumption) | (with_reducible refine below_set ?_ _ _ (by simp)) | (with_reducible refine below_al ?_ _) | (with_reducible refine below_dr ?_) | (with_reducible exact Below.refl _ _) | (with_reducible refine bel_call ?_ (by assumption))))⟩
    · have d1:decide (0≤s∧s<5)=false:=decide_eq_false h1
      have HB1:=Lib.hid (fun w=>(d1 ▸ below_fn s 5 w:Calls Tryz.prog 148 #[.int .i64 s,.int .i64 5] w fun e w'=>e=.returned (.bool false)∧w=w'))
      clear h1 h d1
      go_enter Tryz.func102,Tryz.ntmps102
      go_wp2_with (go_at_call 148; (with_reducible refine (HB1.out _).mono ?_); rintro e w' ⟨rfl,rfl⟩)
      go_ret
      exact ⟨by rw [HE.out]; rfl,by (repeat (first | (with_reducible assumption) | (with_reducible refine below_set ?_ _ _ (by simp)) | (with_reducible refine below_al ?_ _) | (with_reducible refine below_dr ?_) | (with_reducible exact Below.refl _ _) | (with_reducible refine bel_call ?_ (by assumption))))⟩
def SomeBool (pc:Array Value) (w:World) (e:Ending) (w':World):Prop:=∃ b,e=.returned (.bool b)∧w'=w.alloc (.cells pc 28)
theorem below_t (n b:Int) (w:World) (h:0≤n∧n<b):Calls Tryz.prog 148 #[.int .i64 n,.int .i64 b] w fun e w'=>e=.returned (.bool true)∧w=w':=by
  have:=below_fn n b w
  rw [decide_eq_true h] at this
  exact this
set_option maxHeartbeats 1000000 in
theorem may_any (pc:Array Value) (md r c:Nat) (w:World) (hp:PolOk pc) (hs:PolSets pc) (h1:md<5) (h2:r<4) (h3:c<4):Calls Tryz.prog 168 #[.agg pc,.int .i64 md,.int .i64 r,.int .i64 c] w (SomeBool pc w):=by
  obtain ⟨m,hm,hpi⟩:=hs.2.1 (4*md+r) (by omega)
  have p1:=hp.at_ (14+md*4+r) (by omega) (by omega)
  rw [show 14+md*4+r=14+(4*md+r) by omega,hpi,show 14+(4*md+r)=14+md*4+r by omega] at p1
  have HB1:=Lib.hid (fun w=>below_t md 5 w (by omega))
  have HB2:=Lib.hid (fun w=>below_t r 4 w (by omega))
  have HB3:=Lib.hid (fun w=>below_t c 4 w (by omega))
  clear hp hs hpi
  go_enter Tryz.func168,Tryz.ntmps168
  go_wp2_with (first
    | (go_at_call 148; (with_reducible refine (HB1.out _).mono ?_); rintro e w' ⟨rfl,rfl⟩)
    | (go_at_call 148; (with_reducible refine (HB2.out _).mono ?_); rintro e w' ⟨rfl,rfl⟩)
    | (go_at_call 148; (with_reducible refine (HB3.out _).mono ?_); rintro e w' ⟨rfl,rfl⟩)
    | (go_at_call 149; (with_reducible refine (has_any m c _ hm (by omega)).mono ?_); rintro e w' ⟨rfl,rfl⟩))
  go_ret
  exact ⟨_,rfl,rfl⟩
set_option maxHeartbeats 1000000 in
theorem goes_any (pc:Array Value) (f t:Nat) (w:World) (hp:PolOk pc) (hs:PolSets pc) (h1:f<5) (h2:t<5):Calls Tryz.prog 169 #[.agg pc,.int .i64 f,.int .i64 t] w (SomeBool pc w):=by
  obtain ⟨m,hm,hpi⟩:=hs.2.2 f (by omega)
  have p1:=hp.at_ (34+f) (by omega) (by omega)
  rw [hpi] at p1
  have HB1:=Lib.hid (fun w=>below_t f 5 w (by omega))
  have HB2:=Lib.hid (fun w=>below_t t 5 w (by omega))
  clear hp hs hpi
  go_enter Tryz.func169,Tryz.ntmps169
  go_wp2_with (first
    | (go_at_call 148; (with_reducible refine (HB1.out _).mono ?_); rintro e w' ⟨rfl,rfl⟩)
    | (go_at_call 148; (with_reducible refine (HB2.out _).mono ?_); rintro e w' ⟨rfl,rfl⟩)
    | (go_at_call 149; (with_reducible refine (has_any m t _ hm (by omega)).mono ?_); rintro e w' ⟨rfl,rfl⟩))
  go_ret
  exact ⟨_,rfl,rfl⟩
end
section
open Go.RowKit
theorem shl_some (k k2:IntKind) (x y:Int) (h:0≤y):∃ v:Int,∀ w,(Op.shift BinOp.shl k x k2 y).run Tryz.prog w=.ok (.int k v) w :=
  ⟨_,fun w=>by unfold Op.shift; rw [if_neg (by omega)]; rfl⟩
def SomeWin (w:World) (e:Ending) (w':World):Prop:=∃ (a:Bool) (h s:Int),e=.returned (.agg #[.bool a,.int .i64 h,.int .u64 s])∧0≤h∧h≤4294967295∧Below w.heap.size w w'
def SomeWinB (w:World) (e:Ending) (w':World):Prop:=∃ (a:Bool) (h s:Int) (f:Bool),e=.returned (.tuple #[.agg #[.bool a,.int .i64 h,.int .u64 s],.bool f])∧0≤h∧h≤4294967295∧Below w.heap.size w w'
set_option maxHeartbeats 2000000 in
theorem seen_any (a:Bool) (h s n:Int) (w:World) (h1:0≤h) (h2:h≤4294967295):Calls Tryz.prog 159 #[.agg #[.bool a,.int .i64 h,.int .u64 s],.int .i64 n] w (SomeWin w):=by
  by_cases hn:0≤n∧n≤4294967295
  · obtain ⟨hn1,hn2⟩:=hn
    cases a
    · go_enter Tryz.func159,Tryz.ntmps159
      go_wp2
      exact bodyPost_ret (v:=.agg #[.bool true,.int .i64 n,.int .u64 1]) (by simp [results,Tryz.results159,go_sem]) rfl ⟨_,_,_,rfl,hn1,hn2,by (repeat (first | (with_reducible assumption) | (with_reducible refine below_set ?_ _ _ (by simp)) | (with_reducible refine below_al ?_ _) | (with_reducible refine below_dr ?_) | (with_reducible exact Below.refl _ _) | (with_reducible refine bel_call ?_ (by assumption))))⟩
    · by_cases hg:h<n
      · obtain ⟨x,hx⟩:=shl_some .u64 .u64 s (n - h) (by omega)
        go_enter Tryz.func159,Tryz.ntmps159
        go_wp2
        exact bodyPost_ret (v:=.agg #[.bool true,.int .i64 n,.int .u64 (bits BinOp.or IntKind.u64 x 1)]) (by simp [results,Tryz.results159,go_sem]) rfl ⟨_,_,_,rfl,hn1,hn2,by (repeat (first | (with_reducible assumption) | (with_reducible refine below_set ?_ _ _ (by simp)) | (with_reducible refine below_al ?_ _) | (with_reducible refine below_dr ?_) | (with_reducible exact Below.refl _ _) | (with_reducible refine bel_call ?_ (by assumption))))⟩
      · by_cases hd:h - n<64
        · obtain ⟨x,hx⟩:=shl_some .u64 .i64 1 (h - n) (by omega)
          go_enter Tryz.func159,Tryz.ntmps159
          go_wp2
          go_region
          all_goals
            go_wp2
            exact bodyPost_ret (v:=.agg #[.bool true,.int .i64 h,.int .u64 (bits BinOp.or IntKind.u64 s (IntKind.u64.wrap (2 ^ (h - n).toNat)))]) (by simp [results,Tryz.results159,go_sem]) rfl ⟨_,_,_,rfl,h1,h2,by (repeat (first | (with_reducible assumption) | (with_reducible refine below_set ?_ _ _ (by simp)) | (with_reducible refine below_al ?_ _) | (with_reducible refine below_dr ?_) | (with_reducible exact Below.refl _ _) | (with_reducible refine bel_call ?_ (by assumption))))⟩
        · go_enter Tryz.func159,Tryz.ntmps159
          go_wp2
          exact bodyPost_ret (v:=.agg #[.bool true,.int .i64 h,.int .u64 s]) (by simp [results,Tryz.results159,go_sem]) rfl ⟨_,_,_,rfl,h1,h2,by (repeat (first | (with_reducible assumption) | (with_reducible refine below_set ?_ _ _ (by simp)) | (with_reducible refine below_al ?_ _) | (with_reducible refine below_dr ?_) | (with_reducible exact Below.refl _ _) | (with_reducible refine bel_call ?_ (by assumption))))⟩
  · by_cases h0:n<0
    · go_enter Tryz.func159,Tryz.ntmps159
      go_wp2
      exact bodyPost_ret (v:=.agg #[.bool a,.int .i64 h,.int .u64 s]) (by simp [results,Tryz.results159,go_sem]) rfl ⟨_,_,_,rfl,h1,h2,by (repeat (first | (with_reducible assumption) | (with_reducible refine below_set ?_ _ _ (by simp)) | (with_reducible refine below_al ?_ _) | (with_reducible refine below_dr ?_) | (with_reducible exact Below.refl _ _) | (with_reducible refine bel_call ?_ (by assumption))))⟩
    · have hgt:4294967295<n:=by omega
      clear hn
      go_enter Tryz.func159,Tryz.ntmps159
      go_wp2
      exact bodyPost_ret (v:=.agg #[.bool a,.int .i64 h,.int .u64 s]) (by simp [results,Tryz.results159,go_sem]) rfl ⟨_,_,_,rfl,h1,h2,by (repeat (first | (with_reducible assumption) | (with_reducible refine below_set ?_ _ _ (by simp)) | (with_reducible refine below_al ?_ _) | (with_reducible refine below_dr ?_) | (with_reducible exact Below.refl _ _) | (with_reducible refine bel_call ?_ (by assumption))))⟩
theorem eqW (a a':Bool) (h h' s s':Int) (w:World):(Op.equalIn 10000 140 (.agg #[.bool a,.int .i64 h,.int .u64 s]) (.agg #[.bool a',.int .i64 h',.int .u64 s'])).run Tryz.prog w=.ok (a == a'&&(h == h'&&s == s')) w:=by
  have e0:∀ w,(Op.equalIn 9999 4 (.bool a) (.bool a')).run Tryz.prog w=.ok (a == a') w:=fun w=>run_equalIn_bool' w 9998 4 a a' Tryz.underlying4
  have e1:∀ w,(Op.equalIn 9999 3 (.int .i64 h) (.int .i64 h')).run Tryz.prog w=.ok (h == h') w:=fun w=>run_equalIn_int w 9998 3 .i64 .i64 h h' Tryz.underlying3
  have e2:∀ w,(Op.equalIn 9999 134 (.int .u64 s) (.int .u64 s')).run Tryz.prog w=.ok (s == s') w:=fun w=>run_equalIn_int w 9998 134 .u64 .u64 s s' Tryz.underlying134
  rw [show (10000:Nat)=9999+1 from rfl,run_equalIn_struct w 9999 140 _ _ (by kernel_rfl) (by kernel_rfl)]
  simp [Program.fieldsOf,Tryz.underlying140,Op.eqFields,part,isAgg,run_underlying Tryz.underlying3,run_underlying Tryz.underlying4,run_underlying Tryz.underlying134,Sem.run_bind,e0,e1,e2]
  by_cases ha:a=a' <;> by_cases hh:h=h' <;> by_cases hs:s=s' <;> simp [ha,hh,hs]
set_option maxHeartbeats 2000000 in
theorem see_any (a:Bool) (h s n:Int) (w:World) (h1:0≤h) (h2:h≤4294967295):Calls Tryz.prog 109 #[.agg #[.bool a,.int .i64 h,.int .u64 s],.int .i64 n] w (SomeWinB w):=by
  have hE:=eqW
  go_enter Tryz.func109,Tryz.ntmps109
  go_wp2_with (
    go_at_call 159
    (with_reducible refine (seen_any a h s n _ h1 h2).mono ?_); rintro e w1 ⟨a1,h1',s1,rfl,hl,hu,hb1⟩
    obtain ⟨hc,hf⟩:=bcell hb1
    have hz:=hb1.size
    simp at hz
    have hz0:w.heap.size<w1.heap.size:=(by omega)
    have hz1:w.heap.size+1<w1.heap.size:=(by omega)
    have q0:w1.cell? ⟨w.heap.size,0,none⟩=some (.bool a):=(hc _ _ (by simp <;> omega)).trans (by simp [go_sem])
    have q1:w1.cell? ⟨w.heap.size,1,none⟩=some (.int .i64 h):=(hc _ _ (by simp <;> omega)).trans (by simp [go_sem])
    have q2:w1.cell? ⟨w.heap.size,2,none⟩=some (.int .u64 s):=(hc _ _ (by simp <;> omega)).trans (by simp [go_sem])
    have r0:w1.cell? ⟨w.heap.size+1,0,none⟩=some (.bool false):=(hc _ _ (by simp <;> omega)).trans (by simp [go_sem])
    have r1:w1.cell? ⟨w.heap.size+1,1,none⟩=some (.int .i64 0):=(hc _ _ (by simp <;> omega)).trans (by simp [go_sem])
    have r2:w1.cell? ⟨w.heap.size+1,2,none⟩=some (.int .u64 0):=(hc _ _ (by simp <;> omega)).trans (by simp [go_sem])
    have k1:∀ o,w1.frozen? ⟨w.heap.size+1,o,none⟩=false:=(fun o=>(hf _ _ (by simp <;> omega)).trans (by simp [go_sem]))
    clear hc hf)
  go_region
  all_goals
    go_wp2
    exact bodyPost_ret (v:=.tuple #[.agg #[.bool a1,.int .i64 h1',.int .u64 s1],.bool (!(a1 == a&&(h1' == h&&s1 == s)))]) (by simp [results,Tryz.results109,go_sem,r0,r1,r2,hz1]) rfl ⟨_,_,_,_,rfl,hl,hu,by (repeat (first | (with_reducible assumption) | (with_reducible refine below_set ?_ _ _ (by simp)) | (with_reducible refine below_al ?_ _) | (with_reducible refine below_dr ?_) | (with_reducible exact Below.refl _ _) | (with_reducible refine bel_call ?_ (by assumption))))⟩
end
section
open Go.RowKit
def toward (now tx by_:Int):Int:=if now≤tx then (if tx - now≤by_ then tx else now+by_) else (if now - tx≤by_ then tx else now - by_)
theorem toward_in (now tx by_ lo hi:Int) (h0:0≤by_) (h1:lo≤now) (h2:now≤hi) (h3:lo≤tx) (h4:tx≤hi):lo≤toward now tx by_∧toward now tx by_≤hi:=by
  unfold toward; split <;> split <;> omega
theorem u64_sub (a b:Int) (h0:0≤a - b) (h1:a - b<18446744073709551616):IntKind.u64.wrap (IntKind.u64.wrap a - IntKind.u64.wrap b)=a - b:=by
  simp only [IntKind.wrap_u64]
  omega
theorem toward_any (now tx by_:Int) (w:World) (h1:1≤by_) (h2:by_≤100000) (h3:-100000≤now) (h4:now≤100000) (h5:-100000≤tx) (h6:tx≤100000):Calls Tryz.prog 135 #[.int .i64 now,.int .i64 tx,.int .i64 by_] w fun e w'=>e=.returned (.int .i64 (toward now tx by_))∧w=w':=by
  by_cases h:now≤tx
  · have hu:=u64_sub tx now (by omega) (by omega)
    by_cases hd:tx - now≤by_
    · have e:toward now tx by_=tx:=by unfold toward; rw [if_pos h,if_pos hd]
      rw [e]
      clear e
      go_enter Tryz.func135,Tryz.ntmps135
      go_wp2
      go_ret
      exact ⟨rfl,rfl⟩
    · have e:toward now tx by_=now+by_:=by unfold toward; rw [if_pos h,if_neg hd]
      rw [e]
      clear e
      go_enter Tryz.func135,Tryz.ntmps135
      go_wp2
      go_ret
      exact ⟨rfl,rfl⟩
  · have hu:=u64_sub now tx (by omega) (by omega)
    by_cases hd:now - tx≤by_
    · have e:toward now tx by_=tx:=by unfold toward; rw [if_neg h,if_pos hd]
      rw [e]
      clear e
      go_enter Tryz.func135,Tryz.ntmps135
      go_wp2
      go_ret
      exact ⟨rfl,rfl⟩
    · have e:toward now tx by_=now - by_:=by unfold toward; rw [if_neg h,if_neg hd]
      rw [e]
      clear e
      go_enter Tryz.func135,Tryz.ntmps135
      go_wp2
      go_ret
      exact ⟨rfl,rfl⟩
def Pt.set (p:Pt) (pc:Array Value) (c:Nat) (x0 x1 x2 x3:Int) (l:Lb):Pt :=
  ⟨c,clamp x0 (-pI pc (50+c)) (pI pc (50+c)),clamp x1 (-pI pc (50+c)) (pI pc (50+c)),clamp x2 (-pI pc (50+c)) (pI pc (50+c)),clamp x3 (-pI pc (50+c)) (pI pc (50+c)),p.n0,p.n1,p.n2,p.n3,l⟩
set_option maxHeartbeats 4000000 in
theorem set_any (p:Pt) (pc:Array Value) (c:Nat) (x0 x1 x2 x3:Int) (l:Lb) (w:World) (hp:PolOk pc) (hc:c<4) (h1:0≤pI pc (50+c)) (h2:pI pc (50+c)≤1000) :
    Calls Tryz.prog 122 #[.agg pc,.agg #[.int .i64 p.cls,.int .i64 p.t0,.int .i64 p.t1,.int .i64 p.t2,.int .i64 p.t3,.int .i64 p.n0,.int .i64 p.n1,.int .i64 p.n2,.int .i64 p.n3,.int .i64 p.by_.rule,.int .i64 p.by_.src,.int .i64 p.by_.seq],.int .i64 c,.agg #[.int .i64 x0,.int .i64 x1,.int .i64 x2,.int .i64 x3],.agg #[.int .i64 l.rule,.int .i64 l.src,.int .i64 l.seq]] w fun e w'=>e=.returned (.agg #[.int .i64 (p.set pc c x0 x1 x2 x3 l).cls,.int .i64 (p.set pc c x0 x1 x2 x3 l).t0,.int .i64 (p.set pc c x0 x1 x2 x3 l).t1,.int .i64 (p.set pc c x0 x1 x2 x3 l).t2,.int .i64 (p.set pc c x0 x1 x2 x3 l).t3,.int .i64 (p.set pc c x0 x1 x2 x3 l).n0,.int .i64 (p.set pc c x0 x1 x2 x3 l).n1,.int .i64 (p.set pc c x0 x1 x2 x3 l).n2,.int .i64 (p.set pc c x0 x1 x2 x3 l).n3,.int .i64 (p.set pc c x0 x1 x2 x3 l).by_.rule,.int .i64 (p.set pc c x0 x1 x2 x3 l).by_.src,.int .i64 (p.set pc c x0 x1 x2 x3 l).by_.seq])∧Below w.heap.size w w':=by
  have p1:=hp.at_ (50+c) (by omega) (by omega)
  obtain ⟨m,hm⟩:∃ m,pI pc (50+c)=m:=⟨_,rfl⟩
  rw [hm] at p1 h1 h2
  have i0:∀ w,(Instr.index 25 (.agg #[.int .i64 x0,.int .i64 x1,.int .i64 x2,.int .i64 x3]) (.int .i64 0)).run Tryz.prog w=.ok (.int .i64 x0) w:=fun _=>by kernel_rfl
  have i1:∀ w,(Instr.index 25 (.agg #[.int .i64 x0,.int .i64 x1,.int .i64 x2,.int .i64 x3]) (.int .i64 1)).run Tryz.prog w=.ok (.int .i64 x1) w:=fun _=>by kernel_rfl
  have i2:∀ w,(Instr.index 25 (.agg #[.int .i64 x0,.int .i64 x1,.int .i64 x2,.int .i64 x3]) (.int .i64 2)).run Tryz.prog w=.ok (.int .i64 x2) w:=fun _=>by kernel_rfl
  have i3:∀ w,(Instr.index 25 (.agg #[.int .i64 x0,.int .i64 x1,.int .i64 x2,.int .i64 x3]) (.int .i64 3)).run Tryz.prog w=.ok (.int .i64 x3) w:=fun _=>by kernel_rfl
  have HM:=Lib.hid hm
  clear hp hm
  go_enter Tryz.func122,Tryz.ntmps122
  go_wp2
  refine wp_loop_rounds 5 ?_
  rw [rounds_succ]
  go_wp2_with (go_at_call 170; (with_reducible refine (clamp_any x0 (-m) m _).mono ?_); rintro e w' ⟨rfl,rfl⟩)
  rw [rounds_succ]
  go_wp2_with (go_at_call 170; (with_reducible refine (clamp_any x1 (-m) m _).mono ?_); rintro e w' ⟨rfl,rfl⟩)
  rw [rounds_succ]
  go_wp2_with (go_at_call 170; (with_reducible refine (clamp_any x2 (-m) m _).mono ?_); rintro e w' ⟨rfl,rfl⟩)
  rw [rounds_succ]
  go_wp2_with (go_at_call 170; (with_reducible refine (clamp_any x3 (-m) m _).mono ?_); rintro e w' ⟨rfl,rfl⟩)
  rw [rounds_succ]
  go_wp2
  exact bodyPost_ret (v:=.agg #[.int .i64 c,.int .i64 (clamp x0 (-m) m),.int .i64 (clamp x1 (-m) m),.int .i64 (clamp x2 (-m) m),.int .i64 (clamp x3 (-m) m),.int .i64 p.n0,.int .i64 p.n1,.int .i64 p.n2,.int .i64 p.n3,.int .i64 l.rule,.int .i64 l.src,.int .i64 l.seq]) (by simp [results,Tryz.results122,go_sem]) rfl ⟨by rw [← HM.out]; rfl,by (repeat (first | (with_reducible assumption) | (with_reducible refine below_set ?_ _ _ (by simp)) | (with_reducible refine below_al ?_ _) | (with_reducible refine below_dr ?_) | (with_reducible exact Below.refl _ _) | (with_reducible refine bel_call ?_ (by assumption))))⟩
def Pt.step (p:Pt) (r:Int):Pt :=
  ⟨p.cls,p.t0,p.t1,p.t2,p.t3,toward p.n0 p.t0 r,toward p.n1 p.t1 r,toward p.n2 p.t2 r,toward p.n3 p.t3 r,
    if toward p.n0 p.t0 r=p.n0∧toward p.n1 p.t1 r=p.n1∧toward p.n2 p.t2 r=p.n2∧toward p.n3 p.t3 r=p.n3 then p.by_ else { p.by_ with rule:=4 }⟩
end
end Go.Proofs.YtdgejnakakjgfaaGreatDoor
