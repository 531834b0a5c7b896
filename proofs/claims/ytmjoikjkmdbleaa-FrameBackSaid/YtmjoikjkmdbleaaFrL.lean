/- The walk of the law FrameBack. -/
import Derived.Test.YtmjoikjkmdbleaaFrJ
import Derived.Test.YtmjoikjkmdbleaaFrK
namespace Go.Proofs.Ytmjoikjkmdbleaa
open Go.RowKit Crc Fr
set_option linter.unusedVariables false

set_option maxHeartbeats 4000000 in
theorem back_core (A B : Option Addr) (n m c d : Nat) (x y : List UInt8) (w : World) (n' m' n1 : Nat) (hx : Reads w w.heap.size 1 A n' (x.map bv)) (hy : Reads w w.heap.size 1 B m' (y.map bv))
    (hf1 : ∀ w, Calls Try.prog 33 #[.slice A n c] w fun e w' => e = .returned (.slice A n' c) ∧ w = w') (hf2 : ∀ w, Calls Try.prog 27 #[.slice B m d] w fun e w' => e = .returned (.slice B m' d) ∧ w = w')
    (hf3 : ∀ w, Calls Try.prog 27 #[.slice A n c] w fun e w' => e = .returned (.slice A n1 c) ∧ w = w') (hn1 : n1 ≤ maxLen)
    (hn : n' ≤ 32) (hm : m' ≤ 100) :
    Calls Try.prog 11 #[.slice A n c, .slice B m d] w fun e w' => e = .returned (.bool true) ∧ Below w.heap.size w w' := by
  have hlx : x.length = n' := by simpa using hx.1
  have HLX := Lib.hid hlx
  have HP := Lib.hid (put_length x)
  have hx1 := Lib.hid hx
  have hy1 := Lib.hid hy
  have F1 := Lib.hid hf1
  have F2 := Lib.hid hf2
  have F3 := Lib.hid hf3
  have HF : Fr.next (put x ++ y) = ⟨2, n' + 5, 0, x⟩ := by rw [next_put x y (by omega)]; simp [frame, hlx]
  have NF := Lib.hid (@next_named _ 2 (n' + 5) 0 x HF)
  have NW := Lib.hid (fun i (hi : i < n' + 5) => @next_named ((put x).take i) 0 0 0 [] (next_take x (by omega) i (by rw [put_length]; omega)))
  unfold maxLen at hn1
  clear hx hy hf1 hf2 hf3 hlx HF
  go_enter Try.func11, Try.ntmps11
  go_wp2_with (first
    | (go_at_call 26; (with_reducible refine (shown6_any _).mono ?_); rintro e w1 ⟨rfl, hb1⟩; have hs1 := hb1.size)
    | (go_at_call 33; (with_reducible refine (F1.out _).mono ?_); rintro e w' ⟨rfl, rfl⟩)
    | (go_at_call 27; (with_reducible refine (F2.out _).mono ?_); rintro e w' ⟨rfl, rfl⟩)
    | (go_at_call 27; (with_reducible refine (F3.out _).mono ?_); rintro e w' ⟨rfl, rfl⟩)
    | (go_at_call 30; (with_reducible refine (put_any w.heap.size A n' _ x _ (hx1.out.below hb1) hs1 hn).mono ?_); rintro e w2 ⟨A2, k2, c2, rfl, o2, hb2⟩
       have hs2 := hb2.size
       have hB2 := Lib.hid (hb1.trans (hb2.mono hs1))
       obtain rfl : k2 = n' + 5 := (by have h1 := o2.length; have h2 := HLX.out; rw [put_length] at h1; omega))
    | (at_builtin
       refine wpList_append_b rfl (.tmp 36) (.tmp 37) rfl w2.heap.size (some ⟨w2.heap.size, 0, none⟩) 0 0 [] rfl (OwnB.made0 w2 (Nat.le_refl _)) w2.heap.size A2 (n' + 5) c2 (put x) rfl (o2.reads.alloc (Nat.le_refl _) _) (by omega) (by simp) ?_
       intro A3 k3 c3 w3 hk3 hk3' o3 hg3 _
       have hb3 : Below w2.heap.size w2 w3 := ((Below.refl _ _).alloc (Nat.le_refl _) _).grown hg3 (by simp) (by simp [Value.ownBlock])
       have hs3 := hb3.size
       clear hg3)
    | (at_builtin
       refine wpList_append_b rfl (.tmp 38) (.tmp 40) rfl w2.heap.size A3 k3 c3 _ rfl o3 w.heap.size B m' d y rfl ((hy1.out.below hB2.out).below (hb3.mono (by omega))) (by omega) hs3 ?_
       intro A4 k4 c4 w4 hk4 hk4' o4 hg4 _
       have hb4 : Below w2.heap.size w2 w4 := hb3.grown hg4 hs3 (fun g hg => (o3.lt g hg).1)
       have hs4 := hb4.size
       clear hg4)
    | (go_at_call 28; (with_reducible refine (NF.out w4.heap.size _ k4 c4 _ o4.reads (Nat.le_refl _) o4.bounds.1 o4.bounds.2).mono ?_); rintro e w5 ⟨A5, k5, c5, rfl, o5, hb5⟩
       have hs5 := hb5.size
       have cf := fun o => conv_any (c := c5) (o5.reads.alloc (Nat.le_refl _) o)
       have hx5 := Lib.hid (((hx1.out.below hB2.out).below (hb4.mono (by omega))).below (hb5.mono (by omega)))
       have cg := fun o => conv_any (c := c) (hx5.out.alloc (by omega) o)))
  have hB5 : Below w2.heap.size w2 (w5.alloc (.cells #[.int .i64 2, .int .i64 ((n' : Int) + 5), .int .i64 0, .slice A5 k5 c5] 37)) := (hb4.trans (hb5.mono (by omega))).alloc (by omega) _
  have hB5' := Lib.hid hB5
  have O2 := Lib.hid o2
  have bd2 := o2.bounds
  clear hB5 hb3 hb4 hb5 o3 o4 o5 cf cg o2 hb1 hb2
  go_loopw [10, 11] (fun i _ wr => ∃ k : Nat, k ≤ n' + 5 ∧ i = .int .i64 k ∧ Below w2.heap.size w2 wr) (fun i _ _ => n' + 5 - (intOf i).toNat)
  case atStart => exact ⟨0, by omega, rfl, by simpa using hB5'.out⟩
  case round =>
    obtain ⟨k, hk, rfl, hwr⟩ := hrel
    have hws := hwr.size
    by_cases hlt : k < n' + 5
    · have s2 := fun w => slice_h A2 (n' + 5) c2 k w k rfl (by omega) (by omega)
      have HR := Lib.hid ((O2.out.reads.below hwr).bytesTake (k := k) (by omega))
      go_wp2_with (go_at_call 28; (with_reducible refine (NW.out k hlt w2.heap.size A2 k c2 wr HR.out hws (by omega) bd2.2).mono ?_); rintro e w6 ⟨A6, k6, c6, rfl, o6, hb6⟩
                   have hs6 := hb6.size
                   obtain rfl : 0 = k6 := o6.length)
      go_roundw
      case rel => exact ⟨k + 1, by omega, by go_num, (hwr.trans (hb6.mono hws)).alloc (by omega) _⟩
      case measure => simp [intOf]; omega
    · obtain rfl : k = n' + 5 := by omega
      by_cases h32 : n1 ≤ 32
      · go_wp2_with (go_at_call 27; (with_reducible refine (F3.out _).mono ?_); rintro e w' ⟨rfl, rfl⟩)
        go_ret
        exact ⟨rfl, hB2.out.trans (hwr.mono (by omega))⟩
      · go_wp2_with (first
          | (go_at_call 27; (with_reducible refine (F3.out _).mono ?_); rintro e w' ⟨rfl, rfl⟩)
          | (go_at_call 30; (with_reducible refine (put_long _ _ _ _ (by omega) (by unfold maxLen; omega)).mono ?_); rintro e w' ⟨rfl, rfl⟩))
        go_ret
        exact ⟨rfl, hB2.out.trans (hwr.mono (by omega))⟩

theorem back_walk (A B : Option Addr) (n m c d : Nat) (x y : List UInt8) (w : World) (hx : Reads w w.heap.size 1 A n (x.map bv)) (hy : Reads w w.heap.size 1 B m (y.map bv))
    (hn : n ≤ c) (hc : c ≤ maxLen) (hm : m ≤ d) (hd : d ≤ maxLen) :
    Calls Try.prog 11 #[.slice A n c, .slice B m d] w fun e w' => e = .returned (.bool true) ∧ Below w.heap.size w w' :=
  back_core A B n m c d _ _ w _ _ _ (hx.bytesTake (Nat.min_le_left n 32)) (hy.bytesTake (Nat.min_le_left m 100)) (fun w => body6_any A n c w hn hc) (fun w => few6_any B m d w hm hd) (fun w => few6_any A n c w hn hc)
    (by omega) (Nat.min_le_right _ _) (Nat.min_le_right _ _)
end Go.Proofs.Ytmjoikjkmdbleaa
