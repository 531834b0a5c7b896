/- The walk of frame.Next, through frame.body. -/
import Derived.Test.YtmjoikjkmdbleaaFrB
namespace Go.Proofs.Ytmjoikjkmdbleaa
open Go.RowKit Crc Fr

/-- A slice of one byte at least, its address written out. -/
theorem Reads.open_ {w : World} {B n : Nat} {A : Option Addr} {l : List UInt8} (h : Reads w B 1 A n (l.map bv)) (hn : 0 < n) :
    ∃ b off, A = some ⟨b, off, none⟩ ∧ b < B ∧ ∀ k u, l[k]? = some u → w.cell? ⟨b, off + k, none⟩ = some (.int .u8 u.toNat) := by
  have hl : l.length = n := by simpa using h.1
  obtain ⟨ad, rfl, hb, hc⟩ := h.2 hn
  obtain ⟨b, off, spot⟩ := ad
  have h0 := hc 0 (bv l[0]) (by rw [List.getElem?_map, List.getElem?_eq_getElem]; rfl)
  have hs : spot = none := by simpa [Addr.add] using World.cell?_spot h0
  subst hs
  refine ⟨b, off, rfl, hb, fun k u hu => ?_⟩
  have := hc k (bv u) (by rw [List.getElem?_map, hu]; rfl)
  have e : (⟨b, off, none⟩ : Addr).add k = ⟨b, off + k, none⟩ := by unfold Addr.add; split <;> simp_all
  rw [e] at this
  exact this
theorem Reads.mk_ {w : World} {B n b off : Nat} {l : List UInt8} (hl : l.length = n) (hb : b < B) (h : ∀ k u, l[k]? = some u → w.cell? ⟨b, off + k, none⟩ = some (.int .u8 u.toNat)) : Reads w B 1 (some ⟨b, off, none⟩) n (l.map bv) := by
  refine ⟨by simpa using hl, fun _ => ⟨_, rfl, hb, fun j u hu => ?_⟩⟩
  rw [List.getElem?_map, Option.map_eq_some_iff] at hu
  obtain ⟨x, hx, rfl⟩ := hu
  have e : (⟨b, off, none⟩ : Addr).add j = ⟨b, off + j, none⟩ := by unfold Addr.add; split <;> simp_all
  rw [e]; exact h j x hx

theorem below_drewN {B : Nat} {a w : World} (h : Below B a w) (n : Nat) : Below B a (w.drewN n) := ⟨h.os, h.tape, h.output, h.size, h.block⟩
theorem OwnB.base {w : World} {base base' k c : Nat} {A : Option Addr} {l : List UInt8} (h : OwnB w base A k c l) (hb : base' ≤ base) : OwnB w base' A k c l :=
  ⟨h.1, h.2.imp id (fun ⟨g, cap, cur, h1, h2, h3⟩ => ⟨g, cap, cur, h1, Nat.le_trans hb h2, h3⟩)⟩
theorem OwnB.setBelow {w : World} {base k c : Nat} {A : Option Addr} {l : List UInt8} (h : OwnB w base A k c l) {p : Addr} (hp : p.block < base) (u : Value) : OwnB (w.setCell p u) base A k c l :=
  ownsRow_setCell_below h hp u
theorem size22 (w : World) : (sizeOf (Try.prog.elem 22)).run Try.prog w = .ok 1 w := by
  have e : Try.prog.elem 22 = 5 := by kernel_rfl
  obtain ⟨i0, hi0, hz0, hz1, hz2⟩ := info_parts u8_info
  rw [e]
  simp [sizeOf, typeInfo, hi0, hz1]
theorem elem22 : Try.prog.underlying 22 = some (.slice (Try.prog.elem 22)) := by kernel_rfl
/-- b[lo:hi], lo behind the first and ahead of the capacity's end. -/
theorem slice_lh (b off n c lo hi : Nat) (w : World) (L H : Int) (hL : L = lo) (hH : H = hi) (h0 : 0 < lo) (h1 : lo ≤ hi) (h2 : hi ≤ c) (h3 : lo < c) :
    (Instr.slice 22 (.slice (some ⟨b, off, none⟩) n c) (some (.int .i64 L)) (some (.int .i64 H)) none).run Try.prog w = .ok (.slice (some ⟨b, off + lo, none⟩) (hi - lo) (c - lo)) w := by
  subst hL hH
  rw [run_slice_lh w 22 _ n c elem22 .i64 .i64 lo hi (by omega) (by omega) (by omega), size22]
  simp only [Result.andThen, sliced, Int.toNat_natCast]
  rw [if_neg (by omega)]
  simp [Addr.add, show lo ≠ 0 by omega]

theorem or_bytes (p q : UInt8) : bits BinOp.or IntKind.u16 (IntKind.u16.wrap (IntKind.u16.wrap (p.toNat : Int) * 256)) (IntKind.u16.wrap (q.toNat : Int)) = ((up p ^^^ low q).toNat : Int) := by
  have hq : IntKind.u16.wrap (q.toNat : Int) = ((low q).toNat : Int) := by
    have h1 := q.toNat_lt
    have h2 : (low q).toNat = q.toNat := by
      unfold low
      rw [BitVec.toNat_setWidth]
      have : q.toBitVec.toNat = q.toNat := rfl
      omega
    show (q.toNat : Int) % 65536 = _
    omega
  rw [up_u16, hq, bits_or_u16]
  have e : up p ||| low q = up p ^^^ low q := by
    apply BitVec.eq_of_getLsbD_eq
    intro i hi
    simp only [up, low, BitVec.getLsbD_or, BitVec.getLsbD_xor, BitVec.getLsbD_shiftLeft, BitVec.getLsbD_setWidth]
    by_cases h : i < 8
    · simp [h]
    · simp [h, BitVec.getLsbD_of_ge q.toBitVec i (by omega)]
  rw [e]

set_option maxHeartbeats 1000000 in
theorem body_sum (B b off : Nat) (n c : Nat) (nb : UInt8) (s : List UInt8) (p q : UInt8) (w : World)
    (h2 : ∀ o, (w.alloc o).cell? ⟨b, off + 2, none⟩ = some (.int .u8 nb.toNat)) (hs : Reads w B 1 (some ⟨b, off + 1, none⟩) (nb.toNat + 2) (s.map bv)) (hB : B ≤ w.heap.size) (hn : nb.toNat + 5 ≤ n) (hc : n ≤ c) (hm : c ≤ maxLen) (h32 : nb.toNat ≤ 32)
    (hp : ∀ o, (w.alloc o).cell? ⟨b, off + (3 + nb.toNat), none⟩ = some (.int .u8 p.toNat)) (hq : ∀ o, (w.alloc o).cell? ⟨b, off + (3 + nb.toNat + 1), none⟩ = some (.int .u8 q.toNat))
    (x : Nat) (hx : (up p ^^^ low q).toNat = x) (hne : (((Crc.sum s).toNat : Int) != (x : Int)) = true) :
    Calls Try.prog 42 #[.slice (some ⟨b, off, none⟩) n c] w fun e w' => e = .returned (.agg #[.int .i64 3, .int .i64 1, .int .i64 12, .slice none 0 0]) ∧ Below w.heap.size w w' := by
  unfold maxLen at hm
  have hsl : ∀ w, (Instr.slice 22 (.slice (some ⟨b, off, none⟩) n c) (some (.int .i64 1)) (some (.int .i64 (3 + (nb.toNat : Int)))) none).run Try.prog w = .ok (.slice (some ⟨b, off + 1, none⟩) (nb.toNat + 2) (c - 1)) w := by
    intro w
    have := slice_lh b off n c 1 (3 + nb.toNat) w 1 (3 + nb.toNat) rfl (by omega) (by omega) (by omega) (by omega) (by omega)
    rw [show 3 + nb.toNat - 1 = nb.toNat + 2 by omega] at this
    exact this
  have hs2 := Lib.hid (fun o => hs.alloc hB o)
  have hw : IntKind.i64.wrap (3 + (nb.toNat : Int) + 1) = 3 + (nb.toNat : Int) + 1 := IntWalk.i64_in _ (by omega)
  have ht1 : (3 + (nb.toNat : Int)).toNat = 3 + nb.toNat := by omega
  have ht2 : (3 + (nb.toNat : Int) + 1).toNat = 3 + nb.toNat + 1 := by omega
  have hi1 : (3 + (nb.toNat : Int)) < n := by omega
  have hi2 : (3 + (nb.toNat : Int) + 1) < n := by omega
  have hi3 : 0 ≤ (3 + (nb.toNat : Int)) := by omega
  have hi4 : 0 ≤ (3 + (nb.toNat : Int) + 1) := by omega
  have hor := or_bytes p q
  rw [hx] at hor
  clear hx
  clear hs
  go_enter Try.func42, Try.ntmps42
  go_wp2
  go_quiet ((go_at_call 21; exact Calls.quiet_of_same ((sum_any _ _ _ _ _ _ (Reads.drewN (hs2.out _) _) (by unfold maxLen; omega)).mono fun _ _ h => ⟨h.1, h.2.symm⟩)))
  go_wp2_with (go_at_call 43; (with_reducible refine (reject_any _ _).mono ?_); rintro e w1 ⟨rfl, hb⟩; obtain ⟨hcb, hfb⟩ := bcell hb; have hz : w.heap.size + 1 ≤ w1.heap.size := by have := hb.size; simp at this; omega)
  have hB1 : Below w.heap.size w w1 := (below_drewN ((Below.refl w.heap.size w).alloc (Nat.le_refl _) _) _).trans (hb.mono (by simp))
  exact bodyPost_ret (v := .agg #[.int .i64 3, .int .i64 1, .int .i64 12, .slice none 0 0]) (by simp [results, Try.results42, go_sem, hcb]) rfl
    ⟨rfl, by (iterate 4 refine Below.setCell ?_ (by exact Nat.le_refl _) _); exact hB1⟩

set_option maxHeartbeats 1000000 in
theorem body_ok (B b off : Nat) (n c : Nat) (nb : UInt8) (s : List UInt8) (p q : UInt8) (w : World)
    (h2 : ∀ o, (w.alloc o).cell? ⟨b, off + 2, none⟩ = some (.int .u8 nb.toNat)) (hs : Reads w B 1 (some ⟨b, off + 1, none⟩) (nb.toNat + 2) (s.map bv)) (hB : B ≤ w.heap.size) (hn : nb.toNat + 5 ≤ n) (hc : n ≤ c) (hm : c ≤ maxLen) (h32 : nb.toNat ≤ 32)
    (hp : ∀ o, (w.alloc o).cell? ⟨b, off + (3 + nb.toNat), none⟩ = some (.int .u8 p.toNat)) (hq : ∀ o, (w.alloc o).cell? ⟨b, off + (3 + nb.toNat + 1), none⟩ = some (.int .u8 q.toNat)) (bd : List UInt8) (hbd : Reads w B 1 (some ⟨b, off + 3, none⟩) nb.toNat (bd.map bv))
    (x : Nat) (hx : (up p ^^^ low q).toNat = x) (hne : (((Crc.sum s).toNat : Int) != (x : Int)) = false) :
    Calls Try.prog 42 #[.slice (some ⟨b, off, none⟩) n c] w fun e w' => ∃ A' k' c', e = .returned (.agg #[.int .i64 2, .int .i64 (nb.toNat + 5 : Nat), .int .i64 0, .slice A' k' c']) ∧ OwnB w' w.heap.size A' k' c' bd ∧ Below w.heap.size w w' := by
  have hbd2 := Lib.hid (fun o => hbd.alloc hB o)
  have hnb : IntKind.i64.wrap (3 + (nb.toNat : Int) + 2) = 3 + (nb.toNat : Int) + 2 := IntWalk.i64_in _ (by omega)
  clear hbd
  unfold maxLen at hm
  have hsl : ∀ w, (Instr.slice 22 (.slice (some ⟨b, off, none⟩) n c) (some (.int .i64 1)) (some (.int .i64 (3 + (nb.toNat : Int)))) none).run Try.prog w = .ok (.slice (some ⟨b, off + 1, none⟩) (nb.toNat + 2) (c - 1)) w := by
    intro w
    have := slice_lh b off n c 1 (3 + nb.toNat) w 1 (3 + nb.toNat) rfl (by omega) (by omega) (by omega) (by omega) (by omega)
    rw [show 3 + nb.toNat - 1 = nb.toNat + 2 by omega] at this
    exact this
  have hs2 := Lib.hid (fun o => hs.alloc hB o)
  have hw : IntKind.i64.wrap (3 + (nb.toNat : Int) + 1) = 3 + (nb.toNat : Int) + 1 := IntWalk.i64_in _ (by omega)
  have ht1 : (3 + (nb.toNat : Int)).toNat = 3 + nb.toNat := by omega
  have ht2 : (3 + (nb.toNat : Int) + 1).toNat = 3 + nb.toNat + 1 := by omega
  have hi1 : (3 + (nb.toNat : Int)) < n := by omega
  have hi2 : (3 + (nb.toNat : Int) + 1) < n := by omega
  have hi3 : 0 ≤ (3 + (nb.toNat : Int)) := by omega
  have hi4 : 0 ≤ (3 + (nb.toNat : Int) + 1) := by omega
  have hor := or_bytes p q
  rw [hx] at hor
  clear hx
  clear hs
  go_enter Try.func42, Try.ntmps42
  go_wp2
  go_quiet ((go_at_call 21; exact Calls.quiet_of_same ((sum_any _ _ _ _ _ _ (Reads.drewN (hs2.out _) _) (by unfold maxLen; omega)).mono fun _ _ h => ⟨h.1, h.2.symm⟩)))
  go_wp2_with (go_at_call 46; (with_reducible refine (clone_any B _ _ _ bd _ (Reads.drewN (hbd2.out _) _) (by simp; omega) (by omega)).mono ?_); rintro e w1 ⟨A', k', c', rfl, hown, hb⟩; obtain ⟨hcb, hfb⟩ := bcell hb; have hz : w.heap.size + 1 ≤ w1.heap.size := by have := hb.size; simp at this; omega)
  have hB1 : Below w.heap.size w w1 := (below_drewN ((Below.refl w.heap.size w).alloc (Nat.le_refl _) _) _).trans (hb.mono (by simp))
  have ho : OwnB w1 (w.heap.size + 1) A' k' c' bd := hown.base (by simp)
  have e5 : (3 + (nb.toNat : Int) + 2) = ((nb.toNat + 5 : Nat) : Int) := by omega
  refine bodyPost_ret (v := .agg #[.int .i64 2, .int .i64 (3 + (nb.toNat : Int) + 2), .int .i64 0, .slice A' k' c']) (by simp [results, Try.results42, go_sem, hcb]) rfl
    ⟨A', k', c', by rw [e5], ?_, by (iterate 4 refine Below.setCell ?_ (by exact Nat.le_refl _) _); exact hB1⟩
  refine OwnB.base (base := w.heap.size + 1) ?_ (Nat.le_succ _)
  iterate 4 refine OwnB.setBelow ?_ (by exact Nat.lt_succ_self _) _
  exact ho

set_option maxHeartbeats 1000000 in
theorem body_long (b off : Nat) (n c : Nat) (nb : UInt8) (w : World)
    (h2 : ∀ o, (w.alloc o).cell? ⟨b, off + 2, none⟩ = some (.int .u8 nb.toNat)) (hn : 3 ≤ n) (h32 : 32 < nb.toNat) :
    Calls Try.prog 42 #[.slice (some ⟨b, off, none⟩) n c] w fun e w' => e = .returned (.agg #[.int .i64 3, .int .i64 1, .int .i64 11, .slice none 0 0]) ∧ Below w.heap.size w w' := by
  have hnb := nb.toNat_lt
  go_enter Try.func42, Try.ntmps42
  go_wp2_with (go_at_call 43; (with_reducible refine (reject_any _ _).mono ?_); rintro e w1 ⟨rfl, hb⟩; obtain ⟨hcb, hfb⟩ := bcell hb; have hz : w.heap.size + 1 ≤ w1.heap.size := by have := hb.size; simp at this; omega)
  have hB1 : Below w.heap.size w w1 := ((Below.refl w.heap.size w).alloc (Nat.le_refl _) _).trans (hb.mono (by simp))
  exact bodyPost_ret (v := .agg #[.int .i64 3, .int .i64 1, .int .i64 11, .slice none 0 0]) (by simp [results, Try.results42, go_sem, hcb]) rfl
    ⟨rfl, by (iterate 4 refine Below.setCell ?_ (by exact Nat.le_refl _) _); exact hB1⟩

set_option maxHeartbeats 1000000 in
theorem body_wait (b off : Nat) (n c : Nat) (nb : UInt8) (w : World)
    (h2 : ∀ o, (w.alloc o).cell? ⟨b, off + 2, none⟩ = some (.int .u8 nb.toNat)) (hn : 3 ≤ n) (h32 : nb.toNat ≤ 32) (h5 : n < nb.toNat + 5) :
    Calls Try.prog 42 #[.slice (some ⟨b, off, none⟩) n c] w fun e w' => e = .returned (.agg #[.int .i64 0, .int .i64 0, .int .i64 0, .slice none 0 0]) ∧ Below w.heap.size w w' := by
  go_enter Try.func42, Try.ntmps42
  go_wp2
  exact bodyPost_ret (v := .agg #[.int .i64 0, .int .i64 0, .int .i64 0, .slice none 0 0]) (by simp [results, Try.results42, go_sem]) rfl
    ⟨rfl, (Below.refl _ _).alloc (Nat.le_refl _) _⟩

/-- Behind the mark: the version v whatever it be. -/
def behindV (v n : UInt8) (r : List UInt8) : Fr.Fd :=
  if 32 < n.toNat then reject 11 else if r.length < n.toNat + 2 then wait else
  if Crc.sum ([v, n] ++ r.take n.toNat) = up (r.getD n.toNat 0) ^^^ low (r.getD (n.toNat + 1) 0) then frame (r.take n.toNat) else reject 12
theorem behindV_one (n : UInt8) (r : List UInt8) : behindV 1 n r = behind n r := rfl

theorem body_any (B : Nat) (A : Option Addr) (n c : Nat) (c0 c1 nb : UInt8) (r : List UInt8) (w : World) (hr : Reads w B 1 A n ((c0 :: c1 :: nb :: r).map bv)) (hB : B ≤ w.heap.size) (hc : n ≤ c) (hm : c ≤ maxLen) :
    Calls Try.prog 42 #[.slice A n c] w fun e w' => ∃ A' k' c', e = .returned (.agg #[.int .i64 ((behindV c1 nb r).kind : Int), .int .i64 ((behindV c1 nb r).size : Int), .int .i64 ((behindV c1 nb r).code : Int), .slice A' k' c']) ∧
      OwnB w' w.heap.size A' k' c' (behindV c1 nb r).body ∧ Below w.heap.size w w' := by
  have hl : r.length + 3 = n := by have := hr.1; simp at this; omega
  obtain ⟨b, off, rfl, hb, hcell⟩ := hr.open_ (by omega)
  have hal : ∀ (k : Nat) (u : UInt8) (o : Obj), (c0 :: c1 :: nb :: r)[k]? = some u → (w.alloc o).cell? ⟨b, off + k, none⟩ = some (.int .u8 u.toNat) := fun k u o h =>
    (World.cell?_alloc_lt w o _ (by simp; omega)).trans (hcell k u h)
  have h2 : ∀ o, (w.alloc o).cell? ⟨b, off + 2, none⟩ = some (.int .u8 nb.toNat) := fun o => hal 2 nb o rfl
  unfold behindV
  by_cases h32 : 32 < nb.toNat
  · simp only [if_pos h32]
    refine (body_long b off n c nb w h2 (by omega) h32).mono ?_
    rintro e w' ⟨rfl, hb⟩
    exact ⟨none, 0, 0, rfl, OwnB.nil _ _, hb⟩
  simp only [if_neg h32]
  by_cases h5 : r.length < nb.toNat + 2
  · simp only [if_pos h5]
    refine (body_wait b off n c nb w h2 (by omega) (by omega) (by omega)).mono ?_
    rintro e w' ⟨rfl, hb⟩
    exact ⟨none, 0, 0, rfl, OwnB.nil _ _, hb⟩
  simp only [if_neg h5]
  have hp : ∀ o, (w.alloc o).cell? ⟨b, off + (3 + nb.toNat), none⟩ = some (.int .u8 (r.getD nb.toNat 0).toNat) := fun o => hal _ _ o (by
    rw [show 3 + nb.toNat = nb.toNat + 1 + 1 + 1 by omega]
    simp [List.getD_eq_getElem?_getD, List.getElem?_eq_getElem (show nb.toNat < r.length by omega)])
  have hq : ∀ o, (w.alloc o).cell? ⟨b, off + (3 + nb.toNat + 1), none⟩ = some (.int .u8 (r.getD (nb.toNat + 1) 0).toNat) := fun o => hal _ _ o (by
    rw [show 3 + nb.toNat + 1 = nb.toNat + 1 + 1 + 1 + 1 by omega]
    simp [List.getD_eq_getElem?_getD, List.getElem?_eq_getElem (show nb.toNat + 1 < r.length by omega)])
  have hs : Reads w B 1 (some ⟨b, off + 1, none⟩) (nb.toNat + 2) (([c1, nb] ++ r.take nb.toNat).map bv) := by
    refine Reads.mk_ (by simp; omega) hb (fun k u hu => ?_)
    rw [Nat.add_assoc]
    apply hcell
    rw [Nat.add_comm 1 k, List.getElem?_cons_succ, ← hu]
    match k with
    | 0 => rfl
    | 1 => rfl
    | k + 2 =>
      simp only [List.cons_append, List.nil_append, List.getElem?_cons_succ, List.getElem?_take]
      by_cases h : k < nb.toNat
      · rw [if_pos h]
      · simp only [List.cons_append, List.nil_append, List.getElem?_cons_succ, List.getElem?_take, if_neg h] at hu
        cases hu
  by_cases hsum : Crc.sum ([c1, nb] ++ r.take nb.toNat) = up (r.getD nb.toNat 0) ^^^ low (r.getD (nb.toNat + 1) 0)
  · simp only [if_pos hsum]
    have hbd : Reads w B 1 (some ⟨b, off + 3, none⟩) nb.toNat ((r.take nb.toNat).map bv) := by
      refine Reads.mk_ (by simp; omega) hb (fun k u hu => ?_)
      rw [Nat.add_assoc]
      apply hcell
      rw [show 3 + k = k + 1 + 1 + 1 by omega]
      simp only [List.getElem?_cons_succ]
      rw [List.getElem?_take] at hu
      split at hu
      · exact hu
      · cases hu
    have hne : (((Crc.sum ([c1, nb] ++ r.take nb.toNat)).toNat : Int) != ((up (r.getD nb.toNat 0) ^^^ low (r.getD (nb.toNat + 1) 0)).toNat : Int)) = false := by rw [hsum]; simp
    refine (body_ok B b off n c nb _ _ _ w h2 hs hB (by omega) hc hm (by omega) hp hq _ hbd _ rfl hne).mono ?_
    rintro e w' ⟨A', k', c', rfl, ho, hbl⟩
    refine ⟨A', k', c', ?_, ho, hbl⟩
    have e5 : (frame (r.take nb.toNat)).size = nb.toNat + 5 := by simp [frame]; omega
    rw [e5]
    rfl
  · simp only [if_neg hsum]
    have hne : (((Crc.sum ([c1, nb] ++ r.take nb.toNat)).toNat : Int) != ((up (r.getD nb.toNat 0) ^^^ low (r.getD (nb.toNat + 1) 0)).toNat : Int)) = true := by
      rw [bne_iff_ne]; intro e; exact hsum (BitVec.eq_of_toNat_eq (by omega))
    refine (body_sum B b off n c nb _ _ _ w h2 hs hB (by omega) hc hm (by omega) hp hq _ rfl hne).mono ?_
    rintro e w' ⟨rfl, hb⟩
    exact ⟨none, 0, 0, rfl, OwnB.nil _ _, hb⟩
end Go.Proofs.Ytmjoikjkmdbleaa
