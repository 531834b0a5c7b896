/- shown; the walks of the laws FrameAll and FrameGoes. -/
import Derived.Test.YtmjoikjkmdbleaaFrH
namespace Go.Proofs.Ytmjoikjkmdbleaa
open Go.RowKit Crc Fr
set_option linter.unusedVariables false

theorem cell_new (w : World) (C : Array Value) (t : TypeId) (m : Nat × Nat) (i : Nat) (v : Value) (h : C[i]? = some v) : (w.alloc (.cells C t m)).cell? ⟨w.heap.size, i, none⟩ = some v := by
  have : (w.alloc (.cells C t m)).heap[w.heap.size]? = some (.cells C t m) := heap_alloc_new w _
  simp only [World.cell?, this]
  simpa using h
theorem cell_alloc {w : World} {a : Addr} {v : Value} (h : w.cell? a = some v) (o : Obj) : (w.alloc o).cell? a = some v :=
  (World.cell?_alloc_lt w o a (World.block_lt_of_cell? w a h)).trans h
theorem cell_below {w w' : World} {B : Nat} {a : Addr} {v : Value} (hb : Below B w w') (h : w.cell? a = some v) (ha : a.block < B) : w'.cell? a = some v := (hb.cell ha).trans h

theorem next_shown_a (B : Nat) (A : Option Addr) (w : World) (hr : Reads w B 1 A 3 ([1, 2, 165].map bv)) (hB : B ≤ w.heap.size) : Calls Try.prog 28 #[.slice A 3 3] w fun e w' =>
    ∃ A k c, e = .returned (.agg #[.int .i64 1, .int .i64 2, .int .i64 0, .slice A k c]) ∧ Below w.heap.size w w' := by
  refine (next_any B A 3 3 [1, 2, 165] w hr hB (by omega) (by decide)).mono ?_
  rintro e w' ⟨A, k, c, he, _, hb⟩
  have hn : Fr.next [1, 2, 165] = Fr.skip 2 := rfl
  rw [hn] at he
  exact ⟨A, k, c, he, hb⟩
theorem next_shown_b (B : Nat) (A : Option Addr) (w : World) (hr : Reads w B 1 A 2 ([165, 2].map bv)) (hB : B ≤ w.heap.size) : Calls Try.prog 28 #[.slice A 2 2] w fun e w' =>
    ∃ A k c, e = .returned (.agg #[.int .i64 3, .int .i64 1, .int .i64 10, .slice A k c]) ∧ Below w.heap.size w w' := by
  refine (next_any B A 2 2 [165, 2] w hr hB (by omega) (by decide)).mono ?_
  rintro e w' ⟨A, k, c, he, _, hb⟩
  have hn : Fr.next [165, 2] = Fr.reject 10 := rfl
  rw [hn] at he
  exact ⟨A, k, c, he, hb⟩
set_option maxHeartbeats 1000000 in
theorem shown6_any (w : World) : Calls Try.prog 26 #[] w fun e w' => e = .returned (.bool true) ∧ Below w.heap.size w w' := by
  have R0 := Lib.hid (reads_new_b w [1, 2, 165] #[.int .u8 1, .int .u8 2, .int .u8 165] 5 (0, 0) 3 rfl rfl)
  have R1 := Lib.hid (fun w : World => reads_new_b w [165, 2] #[.int .u8 165, .int .u8 2] 5 (0, 0) 2 rfl rfl)
  go_enter Try.func26, Try.ntmps26
  go_wp2_with (first
    | (go_at_call 28; (with_reducible refine (next_shown_a (w.heap.size + 1) _ _ R0.out (by simp)).mono ?_); rintro e w1 ⟨A1, k1, c1, rfl, hb1⟩
       have hz1 := hb1.size
       simp at hz1)
    | (go_at_call 28; (with_reducible refine (next_shown_b (w1.heap.size + 2) _ _ (by simpa using R1.out (w1.alloc (.cells #[.int .i64 1, .int .i64 2, .int .i64 0, .slice A1 k1 c1] 37))) (by simp)).mono ?_); rintro e w2 ⟨A2, k2, c2, rfl, hb2⟩
       have hz2 := hb2.size
       simp at hz2
       have f0 := fun o => cell_alloc (cell_below hb2 (cell_alloc (cell_new w1 _ 37 _ 0 _ rfl) _) (by simp; omega)) o
       have f1 := fun o => cell_alloc (cell_below hb2 (cell_alloc (cell_new w1 _ 37 _ 1 _ rfl) _) (by simp; omega)) o))
  go_ret
  have hB1 : Below w.heap.size w w1 := ((Below.refl w.heap.size w).alloc (Nat.le_refl _) _).trans (hb1.mono (by simp))
  have hB2 : Below w.heap.size w w2 := ((hB1.alloc (by omega) _).alloc (by simp; omega) _).trans (hb2.mono (by simp; omega))
  exact ⟨rfl, hB2.alloc (by omega) _⟩

set_option maxHeartbeats 1000000 in
theorem all6_walk (A B : Option Addr) (n m c d : Nat) (x y : List UInt8) (w : World) (hx : Reads w w.heap.size 1 A n (x.map bv)) (hy : Reads w w.heap.size 1 B m (y.map bv))
    (hn : n ≤ c) (hc : c ≤ maxLen) (hm : m ≤ d) (hd : d ≤ maxLen) (h32 : min n 100 ≤ 32) :
    Calls Try.prog 10 #[.slice A n c, .slice B m d] w fun e w' => e = .returned (.bool true) ∧ Below w.heap.size w w' := by
  have hx1 := Lib.hid (hx.bytesTake (Nat.min_le_left n 100))
  have hy1 := Lib.hid (hy.bytesTake (Nat.min_le_left m 100))
  have F1 := Lib.hid (fun w => few6_any A n c w hn hc)
  have F2 := Lib.hid (fun w => few6_any B m d w hm hd)
  have hm2 : min m 100 ≤ d := by omega
  clear hx hy
  generalize x.take (min n 100) = x' at *
  generalize y.take (min m 100) = y' at *
  generalize min n 100 = n' at *
  generalize min m 100 = m' at *
  clear hn hc hm
  go_enter Try.func10, Try.ntmps10
  go_wp2_with (first
    | (go_at_call 26; (with_reducible refine (shown6_any _).mono ?_); rintro e w1 ⟨rfl, hb1⟩; have hs1 := hb1.size)
    | (go_at_call 27; (with_reducible refine (F1.out _).mono ?_); rintro e w' ⟨rfl, rfl⟩)
    | (go_at_call 27; (with_reducible refine (F2.out _).mono ?_); rintro e w' ⟨rfl, rfl⟩)
    | (go_at_call 30; (with_reducible refine (put_any w.heap.size _ _ _ x' _ (hx1.out.below hb1) hs1 h32).mono ?_); rintro e w2 ⟨A2, k2, c2, rfl, o2, hb2⟩; have hs2 := hb2.size)
    | (go_at_call 31; (with_reducible refine (rput_any w.heap.size _ _ _ x' _ (hx1.out.below (hb1.trans (hb2.mono hs1))) (by omega) h32).mono ?_); rintro e w3 ⟨A3, k3, c3, rfl, o3, hb3⟩; have hs3 := hb3.size)
    | (go_at_call 28; (with_reducible refine (next_any w.heap.size _ _ _ y' _ (hy1.out.below ((hb1.trans (hb2.mono hs1)).trans (hb3.mono (by omega)))) (by omega) hm2 hd).mono ?_); rintro e w4 ⟨A4, k4, c4, rfl, o4, hb4⟩; have hs4 := hb4.size)
    | (go_at_call 32; (with_reducible refine (rnext_any w.heap.size _ _ _ y' _ (hy1.out.below (((hb1.trans (hb2.mono hs1)).trans (hb3.mono (by omega))).trans (hb4.mono (by omega)))) (by omega) hm2 hd).mono ?_); rintro e w5 ⟨A5, k5, c5, rfl, o5, hb5⟩; have hs5 := hb5.size)
    | (go_at_call 29; (with_reducible refine (same_eq _ _ _ _ _ _ _ _ _ _ _ w5.heap.size w5 (Nat.le_refl _) ((o4.reads.below hb5).more hs5) o5.reads).mono ?_); rintro e w6 ⟨rfl, hb6⟩
       have hs6 := hb6.size
       have cp := conv_any (c := c2) (o2.reads.below (((hb3.trans (hb4.mono hs3)).trans (hb5.mono (by omega))).trans (hb6.mono (by omega))))
       have cq := conv_any (c := c3) (o3.reads.below ((hb4.trans (hb5.mono hs4)).trans (hb6.mono (by omega))))))
  go_ret
  exact ⟨rfl, ((((hb1.trans (hb2.mono hs1)).trans (hb3.mono (by omega))).trans (hb4.mono (by omega))).trans (hb5.mono (by omega))).trans (hb6.mono (by omega))⟩
set_option maxHeartbeats 1000000 in
theorem all6_long (A B : Option Addr) (n m c d : Nat) (x y : List UInt8) (w : World) (hx : Reads w w.heap.size 1 A n (x.map bv)) (hy : Reads w w.heap.size 1 B m (y.map bv))
    (hn : n ≤ c) (hc : c ≤ maxLen) (hm : m ≤ d) (hd : d ≤ maxLen) (h32 : 32 < min n 100) :
    Calls Try.prog 10 #[.slice A n c, .slice B m d] w fun e w' => e = .returned (.bool true) ∧ Below w.heap.size w w' := by
  have hx1 := Lib.hid (hx.bytesTake (Nat.min_le_left n 100))
  have hy1 := Lib.hid (hy.bytesTake (Nat.min_le_left m 100))
  have F1 := Lib.hid (fun w => few6_any A n c w hn hc)
  have F2 := Lib.hid (fun w => few6_any B m d w hm hd)
  have hm2 : min m 100 ≤ d := by omega
  have hn100 : min n 100 ≤ maxLen := by omega
  clear hx hy
  generalize x.take (min n 100) = x' at *
  generalize y.take (min m 100) = y' at *
  generalize min n 100 = n' at *
  generalize min m 100 = m' at *
  clear hn hc hm
  go_enter Try.func10, Try.ntmps10
  go_wp2_with (first
    | (go_at_call 26; (with_reducible refine (shown6_any _).mono ?_); rintro e w1 ⟨rfl, hb1⟩; have hs1 := hb1.size)
    | (go_at_call 27; (with_reducible refine (F1.out _).mono ?_); rintro e w' ⟨rfl, rfl⟩)
    | (go_at_call 27; (with_reducible refine (F2.out _).mono ?_); rintro e w' ⟨rfl, rfl⟩)
    | (go_at_call 30; (with_reducible refine (put_long _ _ _ _ h32 (by omega)).mono ?_); rintro e w' ⟨rfl, rfl⟩)
    | (go_at_call 31; (with_reducible refine (rput_long _ _ _ _ h32 (by omega)).mono ?_); rintro e w' ⟨rfl, rfl⟩)
    | (go_at_call 28; (with_reducible refine (next_any w.heap.size _ _ _ y' _ (hy1.out.below hb1) (by omega) hm2 hd).mono ?_); rintro e w4 ⟨A4, k4, c4, rfl, o4, hb4⟩; have hs4 := hb4.size)
    | (go_at_call 32; (with_reducible refine (rnext_any w.heap.size _ _ _ y' _ (hy1.out.below (hb1.trans (hb4.mono (by omega)))) (by omega) hm2 hd).mono ?_); rintro e w5 ⟨A5, k5, c5, rfl, o5, hb5⟩; have hs5 := hb5.size)
    | (go_at_call 29; (with_reducible refine (same_eq _ _ _ _ _ _ _ _ _ _ _ w5.heap.size w5 (Nat.le_refl _) ((o4.reads.below hb5).more hs5) o5.reads).mono ?_); rintro e w6 ⟨rfl, hb6⟩
       have hs6 := hb6.size
       have cp := conv_any (w := w6) (B := 0) (n := 0) (c := 0) (A := none) (x := []) Reads.none_))
  go_ret
  exact ⟨rfl, ((hb1.trans (hb4.mono (by omega))).trans (hb5.mono (by omega))).trans (hb6.mono (by omega))⟩

theorem all6_any (A B : Option Addr) (n m c d : Nat) (x y : List UInt8) (w : World) (hx : Reads w w.heap.size 1 A n (x.map bv)) (hy : Reads w w.heap.size 1 B m (y.map bv))
    (hn : n ≤ c) (hc : c ≤ maxLen) (hm : m ≤ d) (hd : d ≤ maxLen) :
    Calls Try.prog 10 #[.slice A n c, .slice B m d] w fun e w' => e = .returned (.bool true) ∧ Below w.heap.size w w' := by
  by_cases h : min n 100 ≤ 32
  · exact all6_walk A B n m c d x y w hx hy hn hc hm hd h
  · exact all6_long A B n m c d x y w hx hy hn hc hm hd (by omega)
end Go.Proofs.Ytmjoikjkmdbleaa
