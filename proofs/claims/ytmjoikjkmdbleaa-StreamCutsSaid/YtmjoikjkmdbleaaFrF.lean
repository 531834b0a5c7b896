/- frame.Put and the reference's Put come to the plain law's 'put'. -/
import Derived.Test.YtmjoikjkmdbleaaFrE
namespace Go.Proofs.Ytmjoikjkmdbleaa
open Go.RowKit Crc Fr
set_option linter.unusedVariables false

theorem wpList_make0_b {w : World} {ops : Array Oper} {rest : List Oper} {o : Oper} {a : Act} {Q : Exit → Act → World → Prop}
    (hg : o.guard = none) (l c : Operand) (hop : o.op = Op.makeSlice 22 l c) (base : Nat) (kl kc : IntKind) (C : Int) (n : Nat) (hl : a.eval l = .int kl 0) (hc : a.eval c = .int kc C) (hC : C = (n : Int))
    (hn : n ≤ 1000000000) (hbase : base ≤ w.heap.size)
    (h : ∀ w', OwnB w' base (some ⟨w.heap.size, 0, none⟩) 0 n [] → w.grownBy w' none → wpList Try.prog ops Q rest (a.put o.dst (.slice (some ⟨w.heap.size, 0, none⟩) 0 n)) w') :
    wpList Try.prog ops Q (o :: rest) a w := by
  obtain ⟨i0, hi0, hz0, hz1, hz2⟩ := info_parts u8_info
  exact wpList_make_own w hg l c 22 hop base 5 i0 _ 1 Try.underlying22 hi0 hz0 hz1 kl kc C n hl hc hC (by rw [hz2]; omega) (by simp only [maxLen]; omega) hbase h

theorem OwnB.cut {w : World} {base k c g : Nat} {l : List UInt8} (h : OwnB w base (some ⟨g, 0, none⟩) k c l) (lo m : Nat) (hm : lo + m ≤ k) (hlt : 0 < k) : Reads w w.heap.size 1 (some ⟨g, lo, none⟩) m (((l.drop lo).take m).map bv) := by
  have hl := h.length
  obtain ⟨g', _, e, _, hg, _⟩ := h.get (i := 0) hlt
  obtain rfl : g = g' := by injection e with h; injection h
  refine Reads.mk_ (by simp; omega) hg (fun j u hu => ?_)
  rw [List.getElem?_take] at hu
  split at hu
  case isFalse => cases hu
  rw [List.getElem?_drop] at hu
  exact (h.get' (by omega) hu).1

theorem slice_l (b off n c lo : Nat) (w : World) (L : Int) (hL : L = lo) (h0 : 0 < lo) (h1 : lo ≤ n) (h2 : lo < c) :
    (Instr.slice 22 (.slice (some ⟨b, off, none⟩) n c) (some (.int .i64 L)) none none).run Try.prog w = .ok (.slice (some ⟨b, off + lo, none⟩) (n - lo) (c - lo)) w := by
  subst hL
  rw [run_slice_l w 22 _ n c elem22 .i64 lo (by omega) (by omega), size22]
  simp only [Result.andThen, sliced, Int.toNat_natCast]
  rw [if_neg (by omega)]
  simp [Addr.add, show lo ≠ 0 by omega]

theorem two_bytes2 (s : BitVec 16) : [Value.int IntKind.u8 ((s.toNat : Int) / 256), Value.int IntKind.u8 ((s.toNat : Int) % 256)] = [hi s, lo s].map bv := by
  simp only [List.map_cons, List.map_nil, bv, hi_toNat, lo_toNat]

theorem put_cut {w : World} {base k c g : Nat} {x : UInt8} {l : List UInt8} (h : OwnB w base (some ⟨g, 0, none⟩) k c ([] ++ [165, 1, x] ++ l)) : Reads w w.heap.size 1 (some ⟨g, 1, none⟩) (k - 1) (([1, x] ++ l).map bv) := by
  have hl := h.length
  simp at hl
  have := h.cut 1 (k - 1) (by omega) (by omega)
  rw [List.take_of_length_le (by simp; omega)] at this
  exact this

set_option maxHeartbeats 1000000 in
theorem put_any (B : Nat) (A : Option Addr) (n c : Nat) (l : List UInt8) (w : World) (hr : Reads w B 1 A n (l.map bv)) (hB : B ≤ w.heap.size) (hn : n ≤ 32) :
    Calls Try.prog 30 #[.slice A n c] w fun e w' => ∃ A' k' c', e = .returned (.tuple #[.slice A' k' c', .int .i64 0]) ∧ OwnB w' w.heap.size A' k' c' (put l) ∧ Below w.heap.size w w' := by
  have hl : l.length = n := by simpa using hr.1
  have hh : [Value.int IntKind.u8 165, Value.int IntKind.u8 1, Value.int IntKind.u8 (n : Int)] = [165, 1, UInt8.ofNat n].map bv := by
    simp [bv]; omega
  have HH := Lib.hid hh
  have HL := Lib.hid hl
  clear hh hl
  go_enter Try.func30, Try.ntmps30
  go_wp2_with (first
    | (at_make
       refine wpList_make0_b rfl (.const (.int .i64 0)) (.tmp 12) rfl w.heap.size _ _ _ (n + 5) rfl rfl (by omega) (by omega) (Nat.le_refl _) ?_
       intro w1 o1 hg1
       have hb1 : Below w.heap.size w w1 := (Below.refl _ _).grown hg1 (Nat.le_refl _) (fun k hk => by cases hk)
       have hs1 := hb1.size
       clear hg1)
    | (at_builtin
       refine wpList_append_b rfl (.tmp 14) (.tmp 18) rfl w.heap.size _ 0 _ [] rfl (o1.alloc _) (w1.heap.size + 1) (some ⟨w1.heap.size, 0, none⟩) 3 3 [165, 1, UInt8.ofNat n] rfl (reads_new_b w1 _ _ 5 (0, 0) 3 HH.out rfl) (by omega) (by simp; omega) ?_
       intro A2 k2 c2 w2 hk2 hk2' o2 hg2 _
       have hb2 : Below w.heap.size w w2 := (hb1.alloc hs1 _).grown hg2 (by simp; omega) (fun g hg => (o1.lt g hg).1)
       have hs2 := hb2.size
       clear hg2)
    | (at_builtin
       refine wpList_append_b rfl (.tmp 20) (.tmp 21) rfl w.heap.size A2 k2 c2 _ rfl o2 B A n c l rfl (hr.below (hb2.mono hB)) (by omega) hs2 ?_
       intro A3 k3 c3 w3 hk3 hk3' o3 hg3 _
       have hb3 : Below w.heap.size w w3 := hb2.grown hg3 hs2 (fun g hg => (o2.lt g hg).1)
       have hs3 := hb3.size
       have hbd3 := o3.bounds
       obtain ⟨g3, u3, rfl, _, _, _, _, _⟩ := o3.get (i := 0) (by omega)
       have hsl := fun w => slice_l g3 0 k3 c3 1 w 1 rfl (by omega) (by omega) (by omega)
       simp only [Nat.zero_add] at hsl
       have hcut := Lib.hid (put_cut o3)
       clear hg3)
    | (go_at_call 21; (with_reducible refine (sum_any _ _ _ _ _ _ hcut.out (by unfold maxLen; omega)).mono ?_); rintro e w' ⟨rfl, rfl⟩
       generalize hs : Crc.sum ([1, UInt8.ofNat n] ++ l) = s at *
       have HS := Lib.hid hs
       have H2 := Lib.hid (two_bytes2 s)
       clear hs)
    | (at_builtin
       refine wpList_append_b rfl (.tmp 26) (.tmp 32) rfl w.heap.size _ k3 c3 _ rfl (o3.alloc _) (w3.heap.size + 1) (some ⟨w3.heap.size, 0, none⟩) 2 2 [hi s, lo s] rfl (reads_new_b w3 _ _ 5 (0, 0) 2 H2.out rfl) (by omega) (by simp; omega) ?_
       intro A4 k4 c4 w4 hk4 hk4' o4 hg4 _
       have hb4 : Below w.heap.size w w4 := (hb3.alloc hs3 _).grown hg4 (by simp; omega) (fun g hg => (o3.lt g hg).1)
       clear hg4))
  go_ret2
  refine ⟨A4, k4, c4, rfl, ?_, hb4⟩
  have e : put l = [] ++ [165, 1, UInt8.ofNat n] ++ l ++ [hi s, lo s] := by
    rw [← HS.out, ← HL.out]; simp [put]
  rw [e]; exact o4

set_option maxHeartbeats 400000 in
theorem put_long (A : Option Addr) (n c : Nat) (w : World) (hn : 32 < n) (hm : n ≤ maxLen) :
    Calls Try.prog 30 #[.slice A n c] w fun e w' => e = .returned (.tuple #[.slice none 0 0, .int .i64 1]) ∧ w = w' := by
  unfold maxLen at hm
  go_enter Try.func30, Try.ntmps30
  go_wp2
  go_ret2
  exact ⟨rfl, rfl⟩

theorem OwnB.made (w : World) {base : Nat} (hb : base ≤ w.heap.size) (C : Array Value) (l : List UInt8) (n : Nat) (hC : C.toList = l.map bv) (hn : n = l.length) (hm : n ≤ maxLen) :
    OwnB (w.alloc (.cells C 5)) base (some ⟨w.heap.size, 0, none⟩) n n l := by
  have hs : C.size = n := by rw [← Array.length_toList, hC, List.length_map, hn]
  exact ⟨by simp [hn], .inr ⟨w.heap.size, n, C, rfl, hb, heap_alloc_new w _, Nat.le_refl _, hm, by omega, by rw [List.take_of_length_le (by rw [Array.length_toList, hs]; omega), hC]⟩⟩

set_option maxHeartbeats 1000000 in
theorem rput_any (B : Nat) (A : Option Addr) (n c : Nat) (l : List UInt8) (w : World) (hr : Reads w B 1 A n (l.map bv)) (hB : B ≤ w.heap.size) (hn : n ≤ 32) :
    Calls Try.prog 31 #[.slice A n c] w fun e w' => ∃ A' k' c', e = .returned (.tuple #[.slice A' k' c', .int .i64 0]) ∧ OwnB w' w.heap.size A' k' c' (put l) ∧ Below w.heap.size w w' := by
  have hl : l.length = n := by simpa using hr.1
  have hh : [Value.int IntKind.u8 165, Value.int IntKind.u8 1, Value.int IntKind.u8 (n : Int)] = [165, 1, UInt8.ofNat n].map bv := by
    simp [bv]; omega
  have HH := Lib.hid hh
  have HL := Lib.hid hl
  clear hh hl
  go_enter Try.func31, Try.ntmps31
  go_wp2_with (first
    | (at_builtin
       refine wpList_append_b rfl (.tmp 12) (.tmp 13) rfl w.heap.size _ 3 _ [165, 1, UInt8.ofNat n] rfl (OwnB.made w (Nat.le_refl _) _ _ 3 HH.out rfl (by decide)) B A n c l rfl (hr.alloc hB _) (by omega) (by simp) ?_
       intro A3 k3 c3 w3 hk3 hk3' o3 hg3 _
       have hb3 : Below w.heap.size w w3 := ((Below.refl _ _).alloc (Nat.le_refl _) _).grown hg3 (by simp) (fun g hg => by simp [Value.ownBlock] at hg; omega)
       have hs3 := hb3.size
       have hbd3 := o3.bounds
       obtain ⟨g3, u3, rfl, _, _, _, _, _⟩ := o3.get (i := 0) (by omega)
       have hsl := fun w => slice_l g3 0 k3 c3 1 w 1 rfl (by omega) (by omega) (by omega)
       simp only [Nat.zero_add] at hsl
       have hcut := Lib.hid (put_cut (l := l) o3)
       clear hg3)
    | (go_at_call 22; (with_reducible refine (rsum_any _ _ _ _ _ _ hcut.out (by unfold maxLen; omega)).mono ?_); rintro e w' ⟨rfl, rfl⟩
       generalize hs : Crc.sum ([1, UInt8.ofNat n] ++ l) = s at *
       have HS := Lib.hid hs
       have H2 := Lib.hid (two_bytes2 s)
       clear hs)
    | (at_builtin
       refine wpList_append_b rfl (.tmp 18) (.tmp 25) rfl w.heap.size _ k3 c3 _ rfl (o3.alloc _) (w3.heap.size + 1) (some ⟨w3.heap.size, 0, none⟩) 2 2 [hi s, lo s] rfl (reads_new_b w3 _ _ 5 (0, 0) 2 H2.out rfl) (by omega) (by simp; omega) ?_
       intro A4 k4 c4 w4 hk4 hk4' o4 hg4 _
       have hb4 : Below w.heap.size w w4 := (hb3.alloc hs3 _).grown hg4 (by simp; omega) (fun g hg => (o3.lt g hg).1)
       clear hg4))
  go_ret2
  refine ⟨A4, k4, c4, rfl, ?_, hb4⟩
  have e : put l = [165, 1, UInt8.ofNat n] ++ l ++ [hi s, lo s] := by
    rw [← HS.out, ← HL.out]; simp [put]
  rw [e]; exact o4

set_option maxHeartbeats 400000 in
theorem rput_long (A : Option Addr) (n c : Nat) (w : World) (hn : 32 < n) (hm : n ≤ maxLen) :
    Calls Try.prog 31 #[.slice A n c] w fun e w' => e = .returned (.tuple #[.slice none 0 0, .int .i64 1]) ∧ w = w' := by
  unfold maxLen at hm
  go_enter Try.func31, Try.ntmps31
  go_wp2
  go_ret2
  exact ⟨rfl, rfl⟩

set_option maxHeartbeats 400000 in
theorem rreject_any (code : Int) (w : World) :
    Calls Try.prog 45 #[.int .i64 code] w fun e w' => e = .returned (.agg #[.int .i64 3, .int .i64 1, .int .i64 code, .slice none 0 0]) ∧ Below w.heap.size w w' := by
  go_enter Try.func45, Try.ntmps45
  go_wp2
  exact bodyPost_ret (v := .agg #[.int .i64 3, .int .i64 1, .int .i64 code, .slice none 0 0]) (by simp [results, Try.results45, go_sem]) rfl ⟨rfl, (Below.refl _ _).alloc (Nat.le_refl _) _⟩

set_option maxHeartbeats 400000 in
theorem few6_any (A : Option Addr) (n c : Nat) (w : World) (hn : n ≤ c) (hc : c ≤ maxLen) :
    Calls Try.prog 27 #[.slice A n c] w fun e w' => e = .returned (.slice A (min n 100) c) ∧ w = w' := by
  unfold maxLen at hc
  by_cases h : n ≤ 100
  · rw [Nat.min_eq_left h]
    go_enter Try.func27, Try.ntmps27
    go_wp2
    go_ret
    exact ⟨rfl, rfl⟩
  · rw [Nat.min_eq_right (by omega)]
    go_enter Try.func27, Try.ntmps27
    go_wp2
    go_ret
    exact ⟨rfl, rfl⟩
set_option maxHeartbeats 400000 in
theorem body6_any (A : Option Addr) (n c : Nat) (w : World) (hn : n ≤ c) (hc : c ≤ maxLen) :
    Calls Try.prog 33 #[.slice A n c] w fun e w' => e = .returned (.slice A (min n 32) c) ∧ w = w' := by
  unfold maxLen at hc
  by_cases h : n ≤ 32
  · rw [Nat.min_eq_left h]
    go_enter Try.func33, Try.ntmps33
    go_wp2
    go_ret
    exact ⟨rfl, rfl⟩
  · rw [Nat.min_eq_right (by omega)]
    go_enter Try.func33, Try.ntmps33
    go_wp2
    go_ret
    exact ⟨rfl, rfl⟩
end Go.Proofs.Ytmjoikjkmdbleaa
