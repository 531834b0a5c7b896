/- The reference's Next comes to the plain law's 'next'. -/
import Derived.Test.YtmjoikjkmdbleaaFrF
namespace Go.Proofs.Ytmjoikjkmdbleaa
open Go.RowKit Crc Fr
set_option linter.unusedVariables false

theorem ahead_at (l : List UInt8) : ∀ k u, k ≤ Fr.ahead l → l[k]? = some u → (u = 165 → Fr.ahead l = k) ∧ (u ≠ 165 → k + 1 ≤ Fr.ahead l) := by
  induction l with
  | nil => intro k u _ h; simp at h
  | cons c r ih =>
    intro k u hk h
    by_cases hc : c = 165
    · have e1 : Fr.ahead (c :: r) = 0 := by simp [Fr.ahead, hc]
      rw [e1] at hk ⊢
      obtain rfl : k = 0 := by omega
      simp at h; subst h
      exact ⟨fun _ => rfl, fun h => absurd hc h⟩
    · have e1 : Fr.ahead (c :: r) = Fr.ahead r + 1 := by simp [Fr.ahead, hc]
      rw [e1] at hk ⊢
      match k with
      | 0 => simp at h; subst h; exact ⟨fun h => absurd h hc, fun _ => by omega⟩
      | k + 1 =>
        have := ih k u (by omega) (by simpa using h)
        exact ⟨fun h => by rw [this.1 h], fun h => by have := this.2 h; omega⟩

set_option maxHeartbeats 400000 in
theorem rnext0 (A : Option Addr) (c : Nat) (w : World) :
    Calls Try.prog 32 #[.slice A 0 c] w fun e w' => e = .returned (.agg #[.int .i64 0, .int .i64 0, .int .i64 0, .slice none 0 0]) ∧ Below w.heap.size w w' := by
  go_enter Try.func32, Try.ntmps32
  go_wp2
  exact bodyPost_ret (v := .agg #[.int .i64 0, .int .i64 0, .int .i64 0, .slice none 0 0]) (by simp [results, Try.results32, go_sem]) rfl ⟨rfl, (Below.refl w.heap.size w).alloc (Nat.le_refl _) _⟩

set_option maxHeartbeats 1000000 in
theorem rnext_skip (b off n c : Nat) (c0 : UInt8) (l : List UInt8) (w : World) (hl : l.length = n) (hn : 0 < n) (hc : n ≤ c) (hm : c ≤ maxLen) (h0 : ∀ o, (w.alloc o).cell? ⟨b, off, none⟩ = some (.int .u8 c0.toNat))
    (hal : ∀ k u, l[k]? = some u → ∀ o, (w.alloc o).cell? ⟨b, off + k, none⟩ = some (.int .u8 u.toNat)) (e0 : ((c0.toNat : Int) != 165) = true) :
    Calls Try.prog 32 #[.slice (some ⟨b, off, none⟩) n c] w fun e w' => e = .returned (.agg #[.int .i64 1, .int .i64 (Fr.ahead l : Int), .int .i64 0, .slice none 0 0]) ∧ Below w.heap.size w w' := by
  unfold maxLen at hm
  have hz : ((n : Int) == 0) = false := by rw [beq_eq_false_iff_ne]; omega
  have hle := ahead_le l
  have HAL := Lib.hid hal
  have HA := Lib.hid (ahead_at l)
  have HL := Lib.hid hl
  rw [hl] at hle
  clear hal hl
  go_enter Try.func32, Try.ntmps32
  go_wp2
  go_loop [3] (fun i => ∃ k : Nat, k ≤ Fr.ahead l ∧ i = .int .i64 k) (fun i => n - (intOf i).toNat)
  case atStart => exact ⟨0, by omega, rfl⟩
  case round =>
    obtain ⟨k, hk, rfl⟩ := hrel
    by_cases hlt : k < n
    · obtain ⟨u, hu⟩ : ∃ u, l[k]? = some u := ⟨l[k]'(by rw [HL.out]; exact hlt), List.getElem?_eq_getElem _⟩
      have hcell := HAL.out k u hu
      have hat := HA.out k u hk hu
      have hmu := bne_u8 u 165 (by omega)
      by_cases h165 : u = 165
      · have e1 : ((u.toNat : Int) != 165) = false := by rw [show (165 : Int) = ((165 : Nat) : Int) from rfl, hmu]; simp [h165]
        have hk2 := Lib.hid (hat.1 h165)
        clear hat hmu hu h165
        go_wp2
        exact bodyPost_ret (v := .agg #[.int .i64 1, .int .i64 (k : Int), .int .i64 0, .slice none 0 0]) (by simp [results, Try.results32, go_sem]) rfl ⟨by rw [hk2.out], (Below.refl w.heap.size w).alloc (Nat.le_refl _) _⟩
      · have e1 : ((u.toNat : Int) != 165) = true := by rw [show (165 : Int) = ((165 : Nat) : Int) from rfl, hmu]; simp [h165]
        have hk2 := hat.2 h165
        clear hat hmu hu h165
        go_wp2
        go_round
        case rel => exact ⟨k + 1, hk2, by go_num⟩
        case measure => simp [intOf]; omega
    · have hk2 := Lib.hid (show Fr.ahead l = k by omega)
      obtain rfl : k = n := by omega
      go_wp2
      exact bodyPost_ret (v := .agg #[.int .i64 1, .int .i64 (k : Int), .int .i64 0, .slice none 0 0]) (by simp [results, Try.results32, go_sem]) rfl ⟨by rw [hk2.out], (Below.refl w.heap.size w).alloc (Nat.le_refl _) _⟩

/- The short ways. -/
set_option maxHeartbeats 400000 in
theorem rnext1 (b off c : Nat) (w : World) (hm : c ≤ maxLen) (h0 : ∀ o, (w.alloc o).cell? ⟨b, off, none⟩ = some (.int .u8 165)) :
    Calls Try.prog 32 #[.slice (some ⟨b, off, none⟩) 1 c] w fun e w' => e = .returned (.agg #[.int .i64 0, .int .i64 0, .int .i64 0, .slice none 0 0]) ∧ Below w.heap.size w w' := by
  go_enter Try.func32, Try.ntmps32
  go_wp2
  exact bodyPost_ret (v := .agg #[.int .i64 0, .int .i64 0, .int .i64 0, .slice none 0 0]) (by simp [results, Try.results32, go_sem]) rfl ⟨rfl, (Below.refl w.heap.size w).alloc (Nat.le_refl _) _⟩
set_option maxHeartbeats 400000 in
theorem rnext2 (b off c : Nat) (w : World) (hm : c ≤ maxLen) (h0 : ∀ o, (w.alloc o).cell? ⟨b, off, none⟩ = some (.int .u8 165)) (h1 : ∀ o, (w.alloc o).cell? ⟨b, off + 1, none⟩ = some (.int .u8 1)) :
    Calls Try.prog 32 #[.slice (some ⟨b, off, none⟩) 2 c] w fun e w' => e = .returned (.agg #[.int .i64 0, .int .i64 0, .int .i64 0, .slice none 0 0]) ∧ Below w.heap.size w w' := by
  go_enter Try.func32, Try.ntmps32
  go_wp2
  exact bodyPost_ret (v := .agg #[.int .i64 0, .int .i64 0, .int .i64 0, .slice none 0 0]) (by simp [results, Try.results32, go_sem]) rfl ⟨rfl, (Below.refl w.heap.size w).alloc (Nat.le_refl _) _⟩
set_option maxHeartbeats 400000 in
theorem rnext_version (b off n c : Nat) (c1 : UInt8) (w : World) (hn : 2 ≤ n) (hm : n ≤ maxLen) (h0 : ∀ o, (w.alloc o).cell? ⟨b, off, none⟩ = some (.int .u8 165)) (h1 : ∀ o, (w.alloc o).cell? ⟨b, off + 1, none⟩ = some (.int .u8 c1.toNat))
    (e1 : ((c1.toNat : Int) != 1) = true) :
    Calls Try.prog 32 #[.slice (some ⟨b, off, none⟩) n c] w fun e w' => e = .returned (.agg #[.int .i64 3, .int .i64 1, .int .i64 10, .slice none 0 0]) ∧ Below w.heap.size w w' := by
  have z0 : ((n : Int) == 0) = false := by rw [beq_eq_false_iff_ne]; omega
  have z1 : ((n : Int) == 1) = false := by rw [beq_eq_false_iff_ne]; omega
  unfold maxLen at hm
  go_enter Try.func32, Try.ntmps32
  go_wp2_with (go_at_call 45; (with_reducible refine (rreject_any _ _).mono ?_); rintro e w1 ⟨rfl, hb⟩; obtain ⟨hcb, hfb⟩ := bcell hb; have hz : w.heap.size + 1 ≤ w1.heap.size := by have := hb.size; simp at this; omega)
  have hB1 : Below w.heap.size w w1 := ((Below.refl w.heap.size w).alloc (Nat.le_refl _) _).trans (hb.mono (by simp))
  exact bodyPost_ret (v := .agg #[.int .i64 3, .int .i64 1, .int .i64 10, .slice none 0 0]) (by simp [results, Try.results32, go_sem, hcb]) rfl
    ⟨rfl, by (iterate 4 refine Below.setCell ?_ (by exact Nat.le_refl _) _); exact hB1⟩
set_option maxHeartbeats 400000 in
theorem rnext_long (b off n c : Nat) (nb : UInt8) (w : World) (hn : 3 ≤ n) (hm : n ≤ maxLen) (h0 : ∀ o, (w.alloc o).cell? ⟨b, off, none⟩ = some (.int .u8 165)) (h1 : ∀ o, (w.alloc o).cell? ⟨b, off + 1, none⟩ = some (.int .u8 1))
    (h2 : ∀ o, (w.alloc o).cell? ⟨b, off + 2, none⟩ = some (.int .u8 nb.toNat)) (h32 : 32 < nb.toNat) :
    Calls Try.prog 32 #[.slice (some ⟨b, off, none⟩) n c] w fun e w' => e = .returned (.agg #[.int .i64 3, .int .i64 1, .int .i64 11, .slice none 0 0]) ∧ Below w.heap.size w w' := by
  have z0 : ((n : Int) == 0) = false := by rw [beq_eq_false_iff_ne]; omega
  have z1 : ((n : Int) == 1) = false := by rw [beq_eq_false_iff_ne]; omega
  have z2 : ((n : Int) == 2) = false := by rw [beq_eq_false_iff_ne]; omega
  have hnb := nb.toNat_lt
  unfold maxLen at hm
  go_enter Try.func32, Try.ntmps32
  go_wp2_with (go_at_call 45; (with_reducible refine (rreject_any _ _).mono ?_); rintro e w1 ⟨rfl, hb⟩; obtain ⟨hcb, hfb⟩ := bcell hb; have hz : w.heap.size + 1 ≤ w1.heap.size := by have := hb.size; simp at this; omega)
  have hB1 : Below w.heap.size w w1 := ((Below.refl w.heap.size w).alloc (Nat.le_refl _) _).trans (hb.mono (by simp))
  exact bodyPost_ret (v := .agg #[.int .i64 3, .int .i64 1, .int .i64 11, .slice none 0 0]) (by simp [results, Try.results32, go_sem, hcb]) rfl
    ⟨rfl, by (iterate 4 refine Below.setCell ?_ (by exact Nat.le_refl _) _); exact hB1⟩
set_option maxHeartbeats 400000 in
theorem rnext_wait (b off n c : Nat) (nb : UInt8) (w : World) (hn : 3 ≤ n) (hm : n ≤ maxLen) (h0 : ∀ o, (w.alloc o).cell? ⟨b, off, none⟩ = some (.int .u8 165)) (h1 : ∀ o, (w.alloc o).cell? ⟨b, off + 1, none⟩ = some (.int .u8 1))
    (h2 : ∀ o, (w.alloc o).cell? ⟨b, off + 2, none⟩ = some (.int .u8 nb.toNat)) (h32 : nb.toNat ≤ 32) (h5 : n < nb.toNat + 5) :
    Calls Try.prog 32 #[.slice (some ⟨b, off, none⟩) n c] w fun e w' => e = .returned (.agg #[.int .i64 0, .int .i64 0, .int .i64 0, .slice none 0 0]) ∧ Below w.heap.size w w' := by
  have z0 : ((n : Int) == 0) = false := by rw [beq_eq_false_iff_ne]; omega
  have z1 : ((n : Int) == 1) = false := by rw [beq_eq_false_iff_ne]; omega
  have z2 : ((n : Int) == 2) = false := by rw [beq_eq_false_iff_ne]; omega
  unfold maxLen at hm
  go_enter Try.func32, Try.ntmps32
  go_wp2
  exact bodyPost_ret (v := .agg #[.int .i64 0, .int .i64 0, .int .i64 0, .slice none 0 0]) (by simp [results, Try.results32, go_sem]) rfl ⟨rfl, (Below.refl w.heap.size w).alloc (Nat.le_refl _) _⟩

set_option maxHeartbeats 1000000 in
theorem rnext_sum (B b off : Nat) (n c : Nat) (nb : UInt8) (s : List UInt8) (p q : UInt8) (w : World)
    (h0 : ∀ o, (w.alloc o).cell? ⟨b, off, none⟩ = some (.int .u8 165)) (h1 : ∀ o, (w.alloc o).cell? ⟨b, off + 1, none⟩ = some (.int .u8 1))
    (h2 : ∀ o, (w.alloc o).cell? ⟨b, off + 2, none⟩ = some (.int .u8 nb.toNat)) (hs : Reads w B 1 (some ⟨b, off + 1, none⟩) (nb.toNat + 2) (s.map bv)) (hB : B ≤ w.heap.size) (hn : nb.toNat + 5 ≤ n) (hc : n ≤ c) (hm : c ≤ maxLen) (h32 : nb.toNat ≤ 32)
    (hp : ∀ o, (w.alloc o).cell? ⟨b, off + (nb.toNat + 3), none⟩ = some (.int .u8 p.toNat)) (hq : ∀ o, (w.alloc o).cell? ⟨b, off + (nb.toNat + 4), none⟩ = some (.int .u8 q.toNat))
    (hne : (((Crc.sum s).toNat : Int) != 256 * (p.toNat : Int) + (q.toNat : Int)) = true) :
    Calls Try.prog 32 #[.slice (some ⟨b, off, none⟩) n c] w fun e w' => e = .returned (.agg #[.int .i64 3, .int .i64 1, .int .i64 12, .slice none 0 0]) ∧ Below w.heap.size w w' := by
  unfold maxLen at hm
  have z0 : ((n : Int) == 0) = false := by rw [beq_eq_false_iff_ne]; omega
  have z1 : ((n : Int) == 1) = false := by rw [beq_eq_false_iff_ne]; omega
  have z2 : ((n : Int) == 2) = false := by rw [beq_eq_false_iff_ne]; omega
  have hsl : ∀ w, (Instr.slice 22 (.slice (some ⟨b, off, none⟩) n c) (some (.int .i64 1)) (some (.int .i64 ((nb.toNat : Int) + 3))) none).run Try.prog w = .ok (.slice (some ⟨b, off + 1, none⟩) (nb.toNat + 2) (c - 1)) w := by
    intro w
    have := slice_lh b off n c 1 (nb.toNat + 3) w 1 (nb.toNat + 3) rfl (by omega) (by omega) (by omega) (by omega) (by omega)
    rw [show nb.toNat + 3 - 1 = nb.toNat + 2 by omega] at this
    exact this
  have hs2 := Lib.hid (fun o => hs.alloc hB o)
  have hpl := p.toNat_lt
  have hql := q.toNat_lt
  have hw1 : IntKind.i64.wrap ((nb.toNat : Int) + 3) = (nb.toNat : Int) + 3 := IntWalk.i64_in _ (by omega)
  have hw2 : IntKind.i64.wrap ((nb.toNat : Int) + 4) = (nb.toNat : Int) + 4 := IntWalk.i64_in _ (by omega)
  have hw3 : IntKind.i64.wrap (p.toNat : Int) = (p.toNat : Int) := IntWalk.i64_in _ (by omega)
  have hw4 : IntKind.i64.wrap (q.toNat : Int) = (q.toNat : Int) := IntWalk.i64_in _ (by omega)
  have hw5 : IntKind.i64.wrap (256 * (p.toNat : Int)) = 256 * (p.toNat : Int) := IntWalk.i64_in _ (by omega)
  have hw6 : IntKind.i64.wrap (256 * (p.toNat : Int) + (q.toNat : Int)) = 256 * (p.toNat : Int) + (q.toNat : Int) := IntWalk.i64_in _ (by omega)
  have hsl2 := (Crc.sum s).isLt
  have hw7 : IntKind.i64.wrap ((Crc.sum s).toNat : Int) = ((Crc.sum s).toNat : Int) := IntWalk.i64_in _ (by omega)
  clear hsl2
  have ht1 : ((nb.toNat : Int) + 3).toNat = nb.toNat + 3 := by omega
  have ht2 : ((nb.toNat : Int) + 4).toNat = nb.toNat + 4 := by omega
  have hi1 : ((nb.toNat : Int) + 3) < n := by omega
  have hi2 : ((nb.toNat : Int) + 4) < n := by omega
  have hi3 : 0 ≤ ((nb.toNat : Int) + 3) := by omega
  have hi4 : 0 ≤ ((nb.toNat : Int) + 4) := by omega
  clear hs
  go_enter Try.func32, Try.ntmps32
  go_wp2_with (go_at_call 22; (with_reducible refine (rsum_any _ _ _ _ _ _ (hs2.out _) (by unfold maxLen; omega)).mono ?_); rintro e w' ⟨rfl, rfl⟩)
  go_quiet (fail)
  go_wp2_with (go_at_call 45; (with_reducible refine (rreject_any _ _).mono ?_); rintro e w1 ⟨rfl, hb⟩; obtain ⟨hcb, hfb⟩ := bcell hb; have hz : w.heap.size + 1 ≤ w1.heap.size := by have := hb.size; simp at this; omega)
  have hB1 : Below w.heap.size w w1 := (below_drewN ((Below.refl w.heap.size w).alloc (Nat.le_refl _) _) _).trans (hb.mono (by simp))
  exact bodyPost_ret (v := .agg #[.int .i64 3, .int .i64 1, .int .i64 12, .slice none 0 0]) (by simp [results, Try.results32, go_sem, hcb]) rfl
    ⟨rfl, by (iterate 4 refine Below.setCell ?_ (by exact Nat.le_refl _) _); exact hB1⟩

set_option maxHeartbeats 1000000 in
theorem rnext_ok (B b off : Nat) (n c : Nat) (nb : UInt8) (s : List UInt8) (p q : UInt8) (w : World)
    (h0 : ∀ o, (w.alloc o).cell? ⟨b, off, none⟩ = some (.int .u8 165)) (h1 : ∀ o, (w.alloc o).cell? ⟨b, off + 1, none⟩ = some (.int .u8 1))
    (h2 : ∀ o, (w.alloc o).cell? ⟨b, off + 2, none⟩ = some (.int .u8 nb.toNat)) (hs : Reads w B 1 (some ⟨b, off + 1, none⟩) (nb.toNat + 2) (s.map bv)) (hB : B ≤ w.heap.size) (hn : nb.toNat + 5 ≤ n) (hc : n ≤ c) (hm : c ≤ maxLen) (h32 : nb.toNat ≤ 32)
    (hp : ∀ o, (w.alloc o).cell? ⟨b, off + (nb.toNat + 3), none⟩ = some (.int .u8 p.toNat)) (hq : ∀ o, (w.alloc o).cell? ⟨b, off + (nb.toNat + 4), none⟩ = some (.int .u8 q.toNat)) (bd : List UInt8) (hbd : Reads w B 1 (some ⟨b, off + 3, none⟩) nb.toNat (bd.map bv))
    (hne : (((Crc.sum s).toNat : Int) != 256 * (p.toNat : Int) + (q.toNat : Int)) = false) :
    Calls Try.prog 32 #[.slice (some ⟨b, off, none⟩) n c] w fun e w' => ∃ A' k' c', e = .returned (.agg #[.int .i64 2, .int .i64 (nb.toNat + 5 : Nat), .int .i64 0, .slice A' k' c']) ∧ OwnB w' w.heap.size A' k' c' bd ∧ Below w.heap.size w w' := by
  have hbd2 := Lib.hid (fun o => hbd.alloc hB o)
  have hnb : IntKind.i64.wrap ((nb.toNat : Int) + 5) = (nb.toNat : Int) + 5 := IntWalk.i64_in _ (by omega)
  have hsl3 : ∀ w, (Instr.slice 22 (.slice (some ⟨b, off, none⟩) n c) (some (.int .i64 3)) (some (.int .i64 ((nb.toNat : Int) + 3))) none).run Try.prog w = .ok (.slice (some ⟨b, off + 3, none⟩) nb.toNat (c - 3)) w := by
    intro w
    have := slice_lh b off n c 3 (nb.toNat + 3) w 3 (nb.toNat + 3) rfl (by omega) (by omega) (by omega) (by omega) (by omega)
    rw [show nb.toNat + 3 - 3 = nb.toNat by omega] at this
    exact this
  clear hbd
  unfold maxLen at hm
  have z0 : ((n : Int) == 0) = false := by rw [beq_eq_false_iff_ne]; omega
  have z1 : ((n : Int) == 1) = false := by rw [beq_eq_false_iff_ne]; omega
  have z2 : ((n : Int) == 2) = false := by rw [beq_eq_false_iff_ne]; omega
  have hsl : ∀ w, (Instr.slice 22 (.slice (some ⟨b, off, none⟩) n c) (some (.int .i64 1)) (some (.int .i64 ((nb.toNat : Int) + 3))) none).run Try.prog w = .ok (.slice (some ⟨b, off + 1, none⟩) (nb.toNat + 2) (c - 1)) w := by
    intro w
    have := slice_lh b off n c 1 (nb.toNat + 3) w 1 (nb.toNat + 3) rfl (by omega) (by omega) (by omega) (by omega) (by omega)
    rw [show nb.toNat + 3 - 1 = nb.toNat + 2 by omega] at this
    exact this
  have hs2 := Lib.hid (fun o => hs.alloc hB o)
  have hpl := p.toNat_lt
  have hql := q.toNat_lt
  have hw1 : IntKind.i64.wrap ((nb.toNat : Int) + 3) = (nb.toNat : Int) + 3 := IntWalk.i64_in _ (by omega)
  have hw2 : IntKind.i64.wrap ((nb.toNat : Int) + 4) = (nb.toNat : Int) + 4 := IntWalk.i64_in _ (by omega)
  have hw3 : IntKind.i64.wrap (p.toNat : Int) = (p.toNat : Int) := IntWalk.i64_in _ (by omega)
  have hw4 : IntKind.i64.wrap (q.toNat : Int) = (q.toNat : Int) := IntWalk.i64_in _ (by omega)
  have hw5 : IntKind.i64.wrap (256 * (p.toNat : Int)) = 256 * (p.toNat : Int) := IntWalk.i64_in _ (by omega)
  have hw6 : IntKind.i64.wrap (256 * (p.toNat : Int) + (q.toNat : Int)) = 256 * (p.toNat : Int) + (q.toNat : Int) := IntWalk.i64_in _ (by omega)
  have hsl2 := (Crc.sum s).isLt
  have hw7 : IntKind.i64.wrap ((Crc.sum s).toNat : Int) = ((Crc.sum s).toNat : Int) := IntWalk.i64_in _ (by omega)
  clear hsl2
  have ht1 : ((nb.toNat : Int) + 3).toNat = nb.toNat + 3 := by omega
  have ht2 : ((nb.toNat : Int) + 4).toNat = nb.toNat + 4 := by omega
  have hi1 : ((nb.toNat : Int) + 3) < n := by omega
  have hi2 : ((nb.toNat : Int) + 4) < n := by omega
  have hi3 : 0 ≤ ((nb.toNat : Int) + 3) := by omega
  have hi4 : 0 ≤ ((nb.toNat : Int) + 4) := by omega
  clear hs
  go_enter Try.func32, Try.ntmps32
  go_wp2_with (go_at_call 22; (with_reducible refine (rsum_any _ _ _ _ _ _ (hs2.out _) (by unfold maxLen; omega)).mono ?_); rintro e w' ⟨rfl, rfl⟩)
  go_quiet (fail)
  go_wp2_with (at_builtin
               refine wpList_append_b rfl (.tmp 80) (.tmp 84) rfl (w.heap.size + 1) (some ⟨w.heap.size + 1, 0, none⟩) 0 0 [] rfl (by simpa using OwnB.made0 (base := w.heap.size + 1) ((w.alloc (.cells #[.int .i64 0, .int .i64 0, .int .i64 0, .slice none 0 0] 37)).drewN nq) (by simp)) B (some ⟨b, off + 3, none⟩) nb.toNat (c - 3) bd rfl (((hbd2.out _).drewN _).alloc (by simp; omega) _) (by omega) (by simp) ?_
               intro A1 k1 c1 w1 hk1 hk1' hown1 hg1 hat1
               have hb1 : Below (w.heap.size + 1) ((w.alloc (.cells #[.int .i64 0, .int .i64 0, .int .i64 0, .slice none 0 0] 37)).drewN nq) w1 := ((Below.refl _ _).alloc (by simp) _).grown hg1 (by simp) (by simp [Value.ownBlock])
               have hcb := (bcell (W := (w.alloc (.cells #[.int .i64 0, .int .i64 0, .int .i64 0, .slice none 0 0] 37)).drewN nq) (by simpa using hb1)).1
               have hfb := (bcell (W := (w.alloc (.cells #[.int .i64 0, .int .i64 0, .int .i64 0, .slice none 0 0] 37)).drewN nq) (by simpa using hb1)).2
               have hz : w.heap.size + 1 ≤ w1.heap.size := (by have := hb1.size; simp at this; omega))
  have hB1 : Below w.heap.size w w1 := (below_drewN ((Below.refl w.heap.size w).alloc (Nat.le_refl _) _) nq).trans (hb1.mono (by simp))
  have e5 : ((nb.toNat : Int) + 5) = ((nb.toNat + 5 : Nat) : Int) := by omega
  refine bodyPost_ret (v := .agg #[.int .i64 2, .int .i64 ((nb.toNat : Int) + 5), .int .i64 0, .slice A1 k1 c1]) (by simp [results, Try.results32, go_sem, hcb]) rfl
    ⟨A1, k1, c1, by rw [e5], ?_, by (iterate 4 refine Below.setCell ?_ (by exact Nat.le_refl _) _); exact hB1⟩
  refine OwnB.base (base := w.heap.size + 1) ?_ (Nat.le_succ _)
  iterate 4 refine OwnB.setBelow ?_ (by exact Nat.lt_succ_self _) _
  simpa using hown1
end Go.Proofs.Ytmjoikjkmdbleaa
