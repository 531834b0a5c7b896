/- The walk of the law FrameApart. -/
import Derived.Test.YtmjoikjkmdbleaaFrI
namespace Go.Proofs.Ytmjoikjkmdbleaa
open Go.RowKit Crc Fr
set_option linter.unusedVariables false

theorem slice_h (A : Option Addr) (n c hi : Nat) (w : World) (H : Int) (hH : H = hi) (h2 : hi ≤ c) (h0 : c ≠ 0) :
    (Instr.slice 22 (.slice A n c) none (some (.int .i64 H)) none).run Try.prog w = .ok (.slice A hi c) w := by
  subst hH
  rw [run_slice_h w 22 _ n c elem22 .i64 hi (by omega) (by omega), size22]
  simp only [Result.andThen, sliced, Int.toNat_natCast]
  rcases A with _ | ⟨b, off, sp⟩ <;> simp [Addr.add]

set_option maxHeartbeats 2000000 in
theorem apart6_le (A B : Option Addr) (n m c d : Nat) (x y : List UInt8) (w : World) (n' m' : Nat) (hx : Reads w w.heap.size 1 A n' (x.map bv)) (hy : Reads w w.heap.size 1 B m' (y.map bv))
    (hf1 : ∀ w, Calls Try.prog 33 #[.slice A n c] w fun e w' => e = .returned (.slice A n' c) ∧ w = w') (hf2 : ∀ w, Calls Try.prog 33 #[.slice B m d] w fun e w' => e = .returned (.slice B m' d) ∧ w = w')
    (hn : n' ≤ 32) (hm : m' ≤ 32) (hnm : n' ≤ m') :
    Calls Try.prog 13 #[.slice A n c, .slice B m d] w fun e w' => e = .returned (.bool true) ∧ Below w.heap.size w w' := by
  have hlx : x.length = n' := by simpa using hx.1
  have hly : y.length = m' := by simpa using hy.1
  have hps : (((put x).take (n' + 5)) == ((put y).take (n' + 5))) = (x == y) := by
    rw [Bool.eq_iff_iff, beq_iff_eq, beq_iff_eq]
    exact put_apart x y (by omega) (by omega) _ (by rw [put_length, put_length]; omega)
  have HPS := Lib.hid hps
  have HLX := Lib.hid hlx
  have HLY := Lib.hid hly
  have hx1 := Lib.hid hx
  have hy1 := Lib.hid hy
  have F1 := Lib.hid hf1
  have F2 := Lib.hid hf2
  clear hx hy hf1 hf2 hps hlx hly
  go_enter Try.func13, Try.ntmps13
  go_wp2_with (first
    | (go_at_call 26; (with_reducible refine (shown6_any _).mono ?_); rintro e w1 ⟨rfl, hb1⟩; have hs1 := hb1.size)
    | (go_at_call 33; (with_reducible refine (F1.out _).mono ?_); rintro e w' ⟨rfl, rfl⟩)
    | (go_at_call 33; (with_reducible refine (F2.out _).mono ?_); rintro e w' ⟨rfl, rfl⟩)
    | (go_at_call 30; (with_reducible refine (put_any w.heap.size A _ _ x _ (hx1.out.below hb1) hs1 hn).mono ?_); rintro e w2 ⟨A2, k2, c2, rfl, o2, hb2⟩
       have hs2 := hb2.size
       obtain rfl : k2 = n' + 5 := (by have h1 := o2.length; have h2 := HLX.out; rw [put_length] at h1; omega))
    | (go_at_call 30; (with_reducible refine (put_any w.heap.size B _ _ y _ (hy1.out.below (hb1.trans (hb2.mono hs1))) (by omega) hm).mono ?_); rintro e w3 ⟨A3, k3, c3, rfl, o3, hb3⟩
       have hs3 := hb3.size
       obtain rfl : k3 = m' + 5 := (by have h1 := o3.length; have h2 := HLY.out; rw [put_length] at h1; omega)
       have hB3 := Lib.hid ((hb1.trans (hb2.mono hs1)).trans (hb3.mono (by omega)))
       have cx := conv_any (c := c) (hx1.out.below hB3.out)
       have cy := conv_any (c := d) (hy1.out.below hB3.out)
       have o2' : OwnB w3 w1.heap.size A2 (n' + 5) c2 (put x) := o2.below hb3
       obtain ⟨g2, u2, rfl, -, -, -, -, -⟩ := o2'.get (i := 0) (by omega)
       obtain ⟨g3, u3, rfl, -, -, -, -, -⟩ := o3.get (i := 0) (by omega)
       have bd2 := o2'.bounds
       have bd3 := o3.bounds
       have q0 : w3.cell? ⟨g2, 0, none⟩ = some (.int .u8 165) := (o2'.get' (i := 0) (by omega) (u := 165) rfl).1
       have q1 : w3.cell? ⟨g2, 1, none⟩ = some (.int .u8 1) := (o2'.get' (i := 1) (by omega) (u := 1) rfl).1
       have q2 := (o2'.get' (i := 2) (by omega) (u := UInt8.ofNat x.length) rfl).1
       rw [HLX.out, ofNat_toNat _ hn] at q2
       have s2 := fun w => slice_h (some ⟨g2, 0, none⟩) (n' + 5) c2 (n' + 5) w ((n' : Int) + 5) rfl (by omega) (by omega)
       have s3 := fun w => slice_h (some ⟨g3, 0, none⟩) (m' + 5) c3 (n' + 5) w ((n' : Int) + 5) rfl (by omega) (by omega)
       have s4 := fun w => slice_lh g2 0 (n' + 5) c2 3 (3 + n') w 3 (3 + (n' : Int)) rfl (by omega) (by omega) (by omega) (by omega) (by omega)
       simp only [Nat.zero_add, Nat.add_sub_cancel_left] at s4
       have cx2 := fun k => conv_any (c := c) (Reads.drewN (hx1.out.below hB3.out) k)
       have cp := fun k => conv_any (c := c2) (Reads.drewN (OwnB.reads o2' |>.bytesTake (k := n' + 5) (by omega)) k)
       have cq := fun k => conv_any (c := c3) (Reads.drewN (OwnB.reads o3 |>.bytesTake (k := n' + 5) (by omega)) k)
       have cr := fun k => conv_any (c := c2 - 3) (Reads.drewN (by simpa [put, HLX.out] using o2'.cut 3 n' (by omega) (by omega)) k)))
  have hps := HPS.out
  have hw1 : IntKind.i64.wrap (3 + (n' : Int)) = 3 + (n' : Int) := IntWalk.i64_in _ (by omega)
  have hw2 : IntKind.i64.wrap (n' : Int) = (n' : Int) := IntWalk.i64_in _ (by omega)
  have hi0 : (0 : Int) < (n' : Int) + 5 := by omega
  have hi1 : (1 : Int) < (n' : Int) + 5 := by omega
  have hi2 : (2 : Int) < (n' : Int) + 5 := by omega
  clear o2 o2' o3
  go_quiet (fail)
  go_wp2
  go_ret
  exact ⟨rfl, below_drewN hB3.out _⟩

set_option maxHeartbeats 2000000 in
theorem apart6_gt (A B : Option Addr) (n m c d : Nat) (x y : List UInt8) (w : World) (n' m' : Nat) (hx : Reads w w.heap.size 1 A n' (x.map bv)) (hy : Reads w w.heap.size 1 B m' (y.map bv))
    (hf1 : ∀ w, Calls Try.prog 33 #[.slice A n c] w fun e w' => e = .returned (.slice A n' c) ∧ w = w') (hf2 : ∀ w, Calls Try.prog 33 #[.slice B m d] w fun e w' => e = .returned (.slice B m' d) ∧ w = w')
    (hn : n' ≤ 32) (hm : m' ≤ 32) (hnm : m' < n') :
    Calls Try.prog 13 #[.slice A n c, .slice B m d] w fun e w' => e = .returned (.bool true) ∧ Below w.heap.size w w' := by
  have hlx : x.length = n' := by simpa using hx.1
  have hly : y.length = m' := by simpa using hy.1
  have hps : (((put x).take (m' + 5)) == ((put y).take (m' + 5))) = (x == y) := by
    rw [Bool.eq_iff_iff, beq_iff_eq, beq_iff_eq]
    exact put_apart x y (by omega) (by omega) _ (by rw [put_length, put_length]; omega)
  have HPS := Lib.hid hps
  have HLX := Lib.hid hlx
  have HLY := Lib.hid hly
  have hx1 := Lib.hid hx
  have hy1 := Lib.hid hy
  have F1 := Lib.hid hf1
  have F2 := Lib.hid hf2
  clear hx hy hf1 hf2 hps hlx hly
  go_enter Try.func13, Try.ntmps13
  go_wp2_with (first
    | (go_at_call 26; (with_reducible refine (shown6_any _).mono ?_); rintro e w1 ⟨rfl, hb1⟩; have hs1 := hb1.size)
    | (go_at_call 33; (with_reducible refine (F1.out _).mono ?_); rintro e w' ⟨rfl, rfl⟩)
    | (go_at_call 33; (with_reducible refine (F2.out _).mono ?_); rintro e w' ⟨rfl, rfl⟩)
    | (go_at_call 30; (with_reducible refine (put_any w.heap.size A _ _ x _ (hx1.out.below hb1) hs1 hn).mono ?_); rintro e w2 ⟨A2, k2, c2, rfl, o2, hb2⟩
       have hs2 := hb2.size
       obtain rfl : k2 = n' + 5 := (by have h1 := o2.length; have h2 := HLX.out; rw [put_length] at h1; omega))
    | (go_at_call 30; (with_reducible refine (put_any w.heap.size B _ _ y _ (hy1.out.below (hb1.trans (hb2.mono hs1))) (by omega) hm).mono ?_); rintro e w3 ⟨A3, k3, c3, rfl, o3, hb3⟩
       have hs3 := hb3.size
       obtain rfl : k3 = m' + 5 := (by have h1 := o3.length; have h2 := HLY.out; rw [put_length] at h1; omega)
       have hB3 := Lib.hid ((hb1.trans (hb2.mono hs1)).trans (hb3.mono (by omega)))
       have cx := conv_any (c := c) (hx1.out.below hB3.out)
       have cy := conv_any (c := d) (hy1.out.below hB3.out)
       have o2' : OwnB w3 w1.heap.size A2 (n' + 5) c2 (put x) := o2.below hb3
       obtain ⟨g2, u2, rfl, -, -, -, -, -⟩ := o2'.get (i := 0) (by omega)
       obtain ⟨g3, u3, rfl, -, -, -, -, -⟩ := o3.get (i := 0) (by omega)
       have bd2 := o2'.bounds
       have bd3 := o3.bounds
       have q0 : w3.cell? ⟨g2, 0, none⟩ = some (.int .u8 165) := (o2'.get' (i := 0) (by omega) (u := 165) rfl).1
       have q1 : w3.cell? ⟨g2, 1, none⟩ = some (.int .u8 1) := (o2'.get' (i := 1) (by omega) (u := 1) rfl).1
       have q2 := (o2'.get' (i := 2) (by omega) (u := UInt8.ofNat x.length) rfl).1
       rw [HLX.out, ofNat_toNat _ hn] at q2
       have s2 := fun w => slice_h (some ⟨g2, 0, none⟩) (n' + 5) c2 (m' + 5) w ((m' : Int) + 5) rfl (by omega) (by omega)
       have s3 := fun w => slice_h (some ⟨g3, 0, none⟩) (m' + 5) c3 (m' + 5) w ((m' : Int) + 5) rfl (by omega) (by omega)
       have s4 := fun w => slice_lh g2 0 (n' + 5) c2 3 (3 + n') w 3 (3 + (n' : Int)) rfl (by omega) (by omega) (by omega) (by omega) (by omega)
       simp only [Nat.zero_add, Nat.add_sub_cancel_left] at s4
       have cx2 := fun k => conv_any (c := c) (Reads.drewN (hx1.out.below hB3.out) k)
       have cp := fun k => conv_any (c := c2) (Reads.drewN (OwnB.reads o2' |>.bytesTake (k := m' + 5) (by omega)) k)
       have cq := fun k => conv_any (c := c3) (Reads.drewN (OwnB.reads o3 |>.bytesTake (k := m' + 5) (by omega)) k)
       have cr := fun k => conv_any (c := c2 - 3) (Reads.drewN (by simpa [put, HLX.out] using o2'.cut 3 n' (by omega) (by omega)) k)))
  have hps := HPS.out
  have hw1 : IntKind.i64.wrap (3 + (n' : Int)) = 3 + (n' : Int) := IntWalk.i64_in _ (by omega)
  have hw2 : IntKind.i64.wrap (n' : Int) = (n' : Int) := IntWalk.i64_in _ (by omega)
  have hi0 : (0 : Int) < (n' : Int) + 5 := by omega
  have hi1 : (1 : Int) < (n' : Int) + 5 := by omega
  have hi2 : (2 : Int) < (n' : Int) + 5 := by omega
  clear o2 o2' o3
  go_quiet (fail)
  go_wp2
  go_ret
  exact ⟨rfl, below_drewN hB3.out _⟩


theorem apart6_walk (A B : Option Addr) (n m c d : Nat) (x y : List UInt8) (w : World) (hx : Reads w w.heap.size 1 A n (x.map bv)) (hy : Reads w w.heap.size 1 B m (y.map bv))
    (hn : n ≤ c) (hc : c ≤ maxLen) (hm : m ≤ d) (hd : d ≤ maxLen) :
    Calls Try.prog 13 #[.slice A n c, .slice B m d] w fun e w' => e = .returned (.bool true) ∧ Below w.heap.size w w' := by
  have hx1 := hx.bytesTake (Nat.min_le_left n 32)
  have hy1 := hy.bytesTake (Nat.min_le_left m 32)
  have F1 := fun w => body6_any A n c w hn hc
  have F2 := fun w => body6_any B m d w hm hd
  by_cases h : min n 32 ≤ min m 32
  · exact apart6_le A B n m c d _ _ w _ _ hx1 hy1 F1 F2 (Nat.min_le_right _ _) (Nat.min_le_right _ _) h
  · exact apart6_gt A B n m c d _ _ w _ _ hx1 hy1 F1 F2 (Nat.min_le_right _ _) (Nat.min_le_right _ _) (by omega)
end Go.Proofs.Ytmjoikjkmdbleaa
