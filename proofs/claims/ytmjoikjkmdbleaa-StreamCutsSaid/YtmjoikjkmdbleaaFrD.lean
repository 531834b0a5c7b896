/- The walk of frame.Next, one theorem for each way through it. Printed by gen_next.py. -/
import Derived.Test.YtmjoikjkmdbleaaFrC
namespace Go.Proofs.Ytmjoikjkmdbleaa
open Go.RowKit Crc Fr
set_option linter.unusedVariables false

set_option maxHeartbeats 4000000 in
theorem next1m (B : Nat) (b off c : Nat) (c0 : UInt8) (w : World) (hr : Reads w B 1 (some ⟨b, off, none⟩) 1 ([c0].map bv)) (hB : B ≤ w.heap.size) (hc : 1 ≤ c) (hm : c ≤ maxLen) (hb : b < w.heap.size)
    (h0 : ∀ o1 o2, ((w.alloc o1).alloc o2).cell? ⟨b, off, none⟩ = some (.int .u8 c0.toNat))
    (e0 : ((c0.toNat : Int) != 165) = false) :
    Calls Try.prog 28 #[.slice (some ⟨b, off, none⟩) 1 c] w fun e w' => e = .returned (.agg #[.int .i64 0, .int .i64 0, .int .i64 0, .slice none 0 0]) ∧ Below w.heap.size w w' := by
  have hr2 := Lib.hid (fun o1 o2 => (hr.alloc hB o1).alloc (B := B) (by simp; omega) o2)
  have hne : b ≠ w.heap.size := by omega
  have hne1 : b ≠ w.heap.size + 1 := by omega
  unfold maxLen at hm
  clear hr
  go_enter Try.func28, Try.ntmps28
  go_wp2
  have hB0 : ∀ o1 o2, Below w.heap.size w ((w.alloc o1).alloc o2) := fun o1 o2 => ((Below.refl w.heap.size w).alloc (Nat.le_refl _) _).alloc (by simp) _
  exact bodyPost_ret (v := .agg #[.int .i64 0, .int .i64 0, .int .i64 0, .slice none 0 0]) (by simp [results, Try.results28, go_sem]) rfl ⟨rfl, hB0 _ _⟩

set_option maxHeartbeats 4000000 in
theorem next1s (B : Nat) (b off c : Nat) (c0 : UInt8) (w : World) (hr : Reads w B 1 (some ⟨b, off, none⟩) 1 ([c0].map bv)) (hB : B ≤ w.heap.size) (hc : 1 ≤ c) (hm : c ≤ maxLen) (hb : b < w.heap.size)
    (h0 : ∀ o1 o2, ((w.alloc o1).alloc o2).cell? ⟨b, off, none⟩ = some (.int .u8 c0.toNat))
    (e0 : ((c0.toNat : Int) != 165) = true) :
    Calls Try.prog 28 #[.slice (some ⟨b, off, none⟩) 1 c] w fun e w' => e = .returned (.agg #[.int .i64 1, .int .i64 (Fr.ahead [c0] : Int), .int .i64 0, .slice none 0 0]) ∧ Below w.heap.size w w' := by
  have hr2 := Lib.hid (fun o1 o2 => (hr.alloc hB o1).alloc (B := B) (by simp; omega) o2)
  have hne : b ≠ w.heap.size := by omega
  have hne1 : b ≠ w.heap.size + 1 := by omega
  unfold maxLen at hm
  have HS := Lib.hid (fun B A n c w hr hB hn => skip_any B A n c [c0] w hr hB hn)
  generalize (Fr.ahead [c0] : Int) = M at *
  clear hr
  go_enter Try.func28, Try.ntmps28
  go_wp2_with (first
    | (go_at_call 44; (with_reducible refine (HS.out B _ _ _ _ (hr2.out _ _) (by simp; omega) (by unfold maxLen; omega)).mono ?_); rintro e w3 ⟨rfl, hb3⟩
       have hz3 : w.heap.size + 2 ≤ w3.heap.size := (by have := hb3.size; simp at this; omega)
       have zm0 : ∀ o, w3.frozen? ⟨w.heap.size, o, none⟩ = false := fun o => (hb3.frozen (p := ⟨w.heap.size, o, none⟩) (by simp <;> omega)).trans (by simp [go_sem])
       have zm1 : ∀ o, w3.frozen? ⟨w.heap.size + 1, o, none⟩ = false := fun o => (hb3.frozen (p := ⟨w.heap.size + 1, o, none⟩) (by simp <;> omega)).trans (by simp [go_sem])
       have m00 : w3.cell? ⟨w.heap.size, 0, none⟩ = some (.int .i64 0) := (hb3.cell (p := ⟨w.heap.size, 0, none⟩) (by simp <;> omega)).trans ((World.cell?_alloc_lt _ _ _ (by simp)).trans (by simp [go_sem]))
       have m01 : w3.cell? ⟨w.heap.size, 1, none⟩ = some (.int .i64 0) := (hb3.cell (p := ⟨w.heap.size, 1, none⟩) (by simp <;> omega)).trans ((World.cell?_alloc_lt _ _ _ (by simp)).trans (by simp [go_sem]))
       have m02 : w3.cell? ⟨w.heap.size, 2, none⟩ = some (.int .i64 0) := (hb3.cell (p := ⟨w.heap.size, 2, none⟩) (by simp <;> omega)).trans ((World.cell?_alloc_lt _ _ _ (by simp)).trans (by simp [go_sem]))
       have m03 : w3.cell? ⟨w.heap.size, 3, none⟩ = some (.slice none 0 0) := (hb3.cell (p := ⟨w.heap.size, 3, none⟩) (by simp <;> omega)).trans ((World.cell?_alloc_lt _ _ _ (by simp)).trans (by simp [go_sem]))
       have m10 : w3.cell? ⟨w.heap.size + 1, 0, none⟩ = some (.int .i64 0) := (hb3.cell (p := ⟨w.heap.size + 1, 0, none⟩) (by simp <;> omega)).trans ((by simp [go_sem]))
       have m11 : w3.cell? ⟨w.heap.size + 1, 1, none⟩ = some (.int .i64 0) := (hb3.cell (p := ⟨w.heap.size + 1, 1, none⟩) (by simp <;> omega)).trans ((by simp [go_sem]))
       have m12 : w3.cell? ⟨w.heap.size + 1, 2, none⟩ = some (.int .i64 0) := (hb3.cell (p := ⟨w.heap.size + 1, 2, none⟩) (by simp <;> omega)).trans ((by simp [go_sem]))
       have m13 : w3.cell? ⟨w.heap.size + 1, 3, none⟩ = some (.slice none 0 0) := (hb3.cell (p := ⟨w.heap.size + 1, 3, none⟩) (by simp <;> omega)).trans ((by simp [go_sem]))))
  have hB0 : ∀ o1 o2, Below w.heap.size w ((w.alloc o1).alloc o2) := fun o1 o2 => ((Below.refl w.heap.size w).alloc (Nat.le_refl _) _).alloc (by simp) _
  have hB3 : Below w.heap.size w w3 := Below.trans (hB0 _ _) (hb3.mono (by simp; omega))
  refine bodyPost_ret (v := .agg #[.int .i64 1, .int .i64 M, .int .i64 0, .slice none 0 0]) (by simp [results, Try.results28, go_sem, m00, m01, m02, m03]) rfl ⟨rfl, ?_⟩
  iterate 8 refine Below.setCell ?_ (by simp) _
  exact hB3

set_option maxHeartbeats 4000000 in
theorem next2vm (B : Nat) (b off c : Nat) (c0 c1 : UInt8) (w : World) (hr : Reads w B 1 (some ⟨b, off, none⟩) 2 ([c0, c1].map bv)) (hB : B ≤ w.heap.size) (hc : 2 ≤ c) (hm : c ≤ maxLen) (hb : b < w.heap.size)
    (h0 : ∀ o1 o2, ((w.alloc o1).alloc o2).cell? ⟨b, off, none⟩ = some (.int .u8 c0.toNat)) (h1 : ∀ o1 o2, ((w.alloc o1).alloc o2).cell? ⟨b, off + 1, none⟩ = some (.int .u8 c1.toNat))
    (e0 : ((c0.toNat : Int) != 165) = false) (e1 : ((c1.toNat : Int) != 1) = false) :
    Calls Try.prog 28 #[.slice (some ⟨b, off, none⟩) 2 c] w fun e w' => e = .returned (.agg #[.int .i64 0, .int .i64 0, .int .i64 0, .slice none 0 0]) ∧ Below w.heap.size w w' := by
  have hr2 := Lib.hid (fun o1 o2 => (hr.alloc hB o1).alloc (B := B) (by simp; omega) o2)
  have hne : b ≠ w.heap.size := by omega
  have hne1 : b ≠ w.heap.size + 1 := by omega
  unfold maxLen at hm
  clear hr
  go_enter Try.func28, Try.ntmps28
  go_wp2
  have hB0 : ∀ o1 o2, Below w.heap.size w ((w.alloc o1).alloc o2) := fun o1 o2 => ((Below.refl w.heap.size w).alloc (Nat.le_refl _) _).alloc (by simp) _
  exact bodyPost_ret (v := .agg #[.int .i64 0, .int .i64 0, .int .i64 0, .slice none 0 0]) (by simp [results, Try.results28, go_sem]) rfl ⟨rfl, hB0 _ _⟩

set_option maxHeartbeats 4000000 in
theorem next2vs (B : Nat) (b off c : Nat) (c0 c1 : UInt8) (w : World) (hr : Reads w B 1 (some ⟨b, off, none⟩) 2 ([c0, c1].map bv)) (hB : B ≤ w.heap.size) (hc : 2 ≤ c) (hm : c ≤ maxLen) (hb : b < w.heap.size)
    (h0 : ∀ o1 o2, ((w.alloc o1).alloc o2).cell? ⟨b, off, none⟩ = some (.int .u8 c0.toNat)) (h1 : ∀ o1 o2, ((w.alloc o1).alloc o2).cell? ⟨b, off + 1, none⟩ = some (.int .u8 c1.toNat))
    (e0 : ((c0.toNat : Int) != 165) = true) (e1 : ((c1.toNat : Int) != 1) = false) :
    Calls Try.prog 28 #[.slice (some ⟨b, off, none⟩) 2 c] w fun e w' => e = .returned (.agg #[.int .i64 1, .int .i64 (Fr.ahead [c0, c1] : Int), .int .i64 0, .slice none 0 0]) ∧ Below w.heap.size w w' := by
  have hr2 := Lib.hid (fun o1 o2 => (hr.alloc hB o1).alloc (B := B) (by simp; omega) o2)
  have hne : b ≠ w.heap.size := by omega
  have hne1 : b ≠ w.heap.size + 1 := by omega
  unfold maxLen at hm
  have HS := Lib.hid (fun B A n c w hr hB hn => skip_any B A n c [c0, c1] w hr hB hn)
  generalize (Fr.ahead [c0, c1] : Int) = M at *
  clear hr
  go_enter Try.func28, Try.ntmps28
  go_wp2_with (first
    | (go_at_call 44; (with_reducible refine (HS.out B _ _ _ _ (hr2.out _ _) (by simp; omega) (by unfold maxLen; omega)).mono ?_); rintro e w3 ⟨rfl, hb3⟩
       have hz3 : w.heap.size + 2 ≤ w3.heap.size := (by have := hb3.size; simp at this; omega)
       have zm0 : ∀ o, w3.frozen? ⟨w.heap.size, o, none⟩ = false := fun o => (hb3.frozen (p := ⟨w.heap.size, o, none⟩) (by simp <;> omega)).trans (by simp [go_sem])
       have zm1 : ∀ o, w3.frozen? ⟨w.heap.size + 1, o, none⟩ = false := fun o => (hb3.frozen (p := ⟨w.heap.size + 1, o, none⟩) (by simp <;> omega)).trans (by simp [go_sem])
       have m00 : w3.cell? ⟨w.heap.size, 0, none⟩ = some (.int .i64 0) := (hb3.cell (p := ⟨w.heap.size, 0, none⟩) (by simp <;> omega)).trans ((World.cell?_alloc_lt _ _ _ (by simp)).trans (by simp [go_sem]))
       have m01 : w3.cell? ⟨w.heap.size, 1, none⟩ = some (.int .i64 0) := (hb3.cell (p := ⟨w.heap.size, 1, none⟩) (by simp <;> omega)).trans ((World.cell?_alloc_lt _ _ _ (by simp)).trans (by simp [go_sem]))
       have m02 : w3.cell? ⟨w.heap.size, 2, none⟩ = some (.int .i64 0) := (hb3.cell (p := ⟨w.heap.size, 2, none⟩) (by simp <;> omega)).trans ((World.cell?_alloc_lt _ _ _ (by simp)).trans (by simp [go_sem]))
       have m03 : w3.cell? ⟨w.heap.size, 3, none⟩ = some (.slice none 0 0) := (hb3.cell (p := ⟨w.heap.size, 3, none⟩) (by simp <;> omega)).trans ((World.cell?_alloc_lt _ _ _ (by simp)).trans (by simp [go_sem]))
       have m10 : w3.cell? ⟨w.heap.size + 1, 0, none⟩ = some (.int .i64 0) := (hb3.cell (p := ⟨w.heap.size + 1, 0, none⟩) (by simp <;> omega)).trans ((by simp [go_sem]))
       have m11 : w3.cell? ⟨w.heap.size + 1, 1, none⟩ = some (.int .i64 0) := (hb3.cell (p := ⟨w.heap.size + 1, 1, none⟩) (by simp <;> omega)).trans ((by simp [go_sem]))
       have m12 : w3.cell? ⟨w.heap.size + 1, 2, none⟩ = some (.int .i64 0) := (hb3.cell (p := ⟨w.heap.size + 1, 2, none⟩) (by simp <;> omega)).trans ((by simp [go_sem]))
       have m13 : w3.cell? ⟨w.heap.size + 1, 3, none⟩ = some (.slice none 0 0) := (hb3.cell (p := ⟨w.heap.size + 1, 3, none⟩) (by simp <;> omega)).trans ((by simp [go_sem]))))
  have hB0 : ∀ o1 o2, Below w.heap.size w ((w.alloc o1).alloc o2) := fun o1 o2 => ((Below.refl w.heap.size w).alloc (Nat.le_refl _) _).alloc (by simp) _
  have hB3 : Below w.heap.size w w3 := Below.trans (hB0 _ _) (hb3.mono (by simp; omega))
  refine bodyPost_ret (v := .agg #[.int .i64 1, .int .i64 M, .int .i64 0, .slice none 0 0]) (by simp [results, Try.results28, go_sem, m00, m01, m02, m03]) rfl ⟨rfl, ?_⟩
  iterate 8 refine Below.setCell ?_ (by simp) _
  exact hB3

set_option maxHeartbeats 4000000 in
theorem next2xm (B : Nat) (b off c : Nat) (c0 c1 : UInt8) (w : World) (hr : Reads w B 1 (some ⟨b, off, none⟩) 2 ([c0, c1].map bv)) (hB : B ≤ w.heap.size) (hc : 2 ≤ c) (hm : c ≤ maxLen) (hb : b < w.heap.size)
    (h0 : ∀ o1 o2, ((w.alloc o1).alloc o2).cell? ⟨b, off, none⟩ = some (.int .u8 c0.toNat)) (h1 : ∀ o1 o2, ((w.alloc o1).alloc o2).cell? ⟨b, off + 1, none⟩ = some (.int .u8 c1.toNat))
    (e0 : ((c0.toNat : Int) != 165) = false) (e1 : ((c1.toNat : Int) != 1) = true) :
    Calls Try.prog 28 #[.slice (some ⟨b, off, none⟩) 2 c] w fun e w' => e = .returned (.agg #[.int .i64 3, .int .i64 1, .int .i64 10, .slice none 0 0]) ∧ Below w.heap.size w w' := by
  have hr2 := Lib.hid (fun o1 o2 => (hr.alloc hB o1).alloc (B := B) (by simp; omega) o2)
  have hne : b ≠ w.heap.size := by omega
  have hne1 : b ≠ w.heap.size + 1 := by omega
  unfold maxLen at hm
  clear hr
  go_enter Try.func28, Try.ntmps28
  go_wp2_with (first
    | (go_at_call 43; (with_reducible refine (reject_any _ _).mono ?_); rintro e w2 ⟨rfl, hb2⟩
       have hz2 : w.heap.size + 2 ≤ w2.heap.size := (by have := hb2.size; simp at this; omega)
       have zk0 : ∀ o, w2.frozen? ⟨w.heap.size, o, none⟩ = false := fun o => (hb2.frozen (p := ⟨w.heap.size, o, none⟩) (by simp <;> omega)).trans (by simp [go_sem])
       have zk1 : ∀ o, w2.frozen? ⟨w.heap.size + 1, o, none⟩ = false := fun o => (hb2.frozen (p := ⟨w.heap.size + 1, o, none⟩) (by simp <;> omega)).trans (by simp [go_sem])
       have k00 : w2.cell? ⟨w.heap.size, 0, none⟩ = some (.int .i64 0) := (hb2.cell (p := ⟨w.heap.size, 0, none⟩) (by simp <;> omega)).trans ((World.cell?_alloc_lt _ _ _ (by simp)).trans (by simp [go_sem]))
       have k01 : w2.cell? ⟨w.heap.size, 1, none⟩ = some (.int .i64 0) := (hb2.cell (p := ⟨w.heap.size, 1, none⟩) (by simp <;> omega)).trans ((World.cell?_alloc_lt _ _ _ (by simp)).trans (by simp [go_sem]))
       have k02 : w2.cell? ⟨w.heap.size, 2, none⟩ = some (.int .i64 0) := (hb2.cell (p := ⟨w.heap.size, 2, none⟩) (by simp <;> omega)).trans ((World.cell?_alloc_lt _ _ _ (by simp)).trans (by simp [go_sem]))
       have k03 : w2.cell? ⟨w.heap.size, 3, none⟩ = some (.slice none 0 0) := (hb2.cell (p := ⟨w.heap.size, 3, none⟩) (by simp <;> omega)).trans ((World.cell?_alloc_lt _ _ _ (by simp)).trans (by simp [go_sem]))
       have k10 : w2.cell? ⟨w.heap.size + 1, 0, none⟩ = some (.int .i64 0) := (hb2.cell (p := ⟨w.heap.size + 1, 0, none⟩) (by simp <;> omega)).trans ((by simp [go_sem]))
       have k11 : w2.cell? ⟨w.heap.size + 1, 1, none⟩ = some (.int .i64 0) := (hb2.cell (p := ⟨w.heap.size + 1, 1, none⟩) (by simp <;> omega)).trans ((by simp [go_sem]))
       have k12 : w2.cell? ⟨w.heap.size + 1, 2, none⟩ = some (.int .i64 0) := (hb2.cell (p := ⟨w.heap.size + 1, 2, none⟩) (by simp <;> omega)).trans ((by simp [go_sem]))
       have k13 : w2.cell? ⟨w.heap.size + 1, 3, none⟩ = some (.slice none 0 0) := (hb2.cell (p := ⟨w.heap.size + 1, 3, none⟩) (by simp <;> omega)).trans ((by simp [go_sem]))
       have R2 := Lib.hid ((hr2.out _ _).below (hb2.mono (by simp; omega)))
       have f0' : w2.cell? ⟨b, off, none⟩ = some (.int .u8 c0.toNat) := (hb2.cell (p := ⟨b, off, none⟩) (by simp; omega)).trans (h0 _ _)))
  have hB0 : ∀ o1 o2, Below w.heap.size w ((w.alloc o1).alloc o2) := fun o1 o2 => ((Below.refl w.heap.size w).alloc (Nat.le_refl _) _).alloc (by simp) _
  have hB2 : Below w.heap.size w w2 := Below.trans (hB0 _ _) (hb2.mono (by simp; omega))
  refine bodyPost_ret (v := .agg #[.int .i64 3, .int .i64 1, .int .i64 10, .slice none 0 0]) (by simp [results, Try.results28, go_sem, k00, k01, k02, k03]) rfl ⟨rfl, ?_⟩
  iterate 8 refine Below.setCell ?_ (by simp) _
  exact hB2

set_option maxHeartbeats 4000000 in
theorem next2xs (B : Nat) (b off c : Nat) (c0 c1 : UInt8) (w : World) (hr : Reads w B 1 (some ⟨b, off, none⟩) 2 ([c0, c1].map bv)) (hB : B ≤ w.heap.size) (hc : 2 ≤ c) (hm : c ≤ maxLen) (hb : b < w.heap.size)
    (h0 : ∀ o1 o2, ((w.alloc o1).alloc o2).cell? ⟨b, off, none⟩ = some (.int .u8 c0.toNat)) (h1 : ∀ o1 o2, ((w.alloc o1).alloc o2).cell? ⟨b, off + 1, none⟩ = some (.int .u8 c1.toNat))
    (e0 : ((c0.toNat : Int) != 165) = true) (e1 : ((c1.toNat : Int) != 1) = true) :
    Calls Try.prog 28 #[.slice (some ⟨b, off, none⟩) 2 c] w fun e w' => e = .returned (.agg #[.int .i64 1, .int .i64 (Fr.ahead [c0, c1] : Int), .int .i64 0, .slice none 0 0]) ∧ Below w.heap.size w w' := by
  have hr2 := Lib.hid (fun o1 o2 => (hr.alloc hB o1).alloc (B := B) (by simp; omega) o2)
  have hne : b ≠ w.heap.size := by omega
  have hne1 : b ≠ w.heap.size + 1 := by omega
  unfold maxLen at hm
  have HS := Lib.hid (fun B A n c w hr hB hn => skip_any B A n c [c0, c1] w hr hB hn)
  generalize (Fr.ahead [c0, c1] : Int) = M at *
  clear hr
  go_enter Try.func28, Try.ntmps28
  go_wp2_with (first
    | (go_at_call 43; (with_reducible refine (reject_any _ _).mono ?_); rintro e w2 ⟨rfl, hb2⟩
       have hz2 : w.heap.size + 2 ≤ w2.heap.size := (by have := hb2.size; simp at this; omega)
       have zk0 : ∀ o, w2.frozen? ⟨w.heap.size, o, none⟩ = false := fun o => (hb2.frozen (p := ⟨w.heap.size, o, none⟩) (by simp <;> omega)).trans (by simp [go_sem])
       have zk1 : ∀ o, w2.frozen? ⟨w.heap.size + 1, o, none⟩ = false := fun o => (hb2.frozen (p := ⟨w.heap.size + 1, o, none⟩) (by simp <;> omega)).trans (by simp [go_sem])
       have k00 : w2.cell? ⟨w.heap.size, 0, none⟩ = some (.int .i64 0) := (hb2.cell (p := ⟨w.heap.size, 0, none⟩) (by simp <;> omega)).trans ((World.cell?_alloc_lt _ _ _ (by simp)).trans (by simp [go_sem]))
       have k01 : w2.cell? ⟨w.heap.size, 1, none⟩ = some (.int .i64 0) := (hb2.cell (p := ⟨w.heap.size, 1, none⟩) (by simp <;> omega)).trans ((World.cell?_alloc_lt _ _ _ (by simp)).trans (by simp [go_sem]))
       have k02 : w2.cell? ⟨w.heap.size, 2, none⟩ = some (.int .i64 0) := (hb2.cell (p := ⟨w.heap.size, 2, none⟩) (by simp <;> omega)).trans ((World.cell?_alloc_lt _ _ _ (by simp)).trans (by simp [go_sem]))
       have k03 : w2.cell? ⟨w.heap.size, 3, none⟩ = some (.slice none 0 0) := (hb2.cell (p := ⟨w.heap.size, 3, none⟩) (by simp <;> omega)).trans ((World.cell?_alloc_lt _ _ _ (by simp)).trans (by simp [go_sem]))
       have k10 : w2.cell? ⟨w.heap.size + 1, 0, none⟩ = some (.int .i64 0) := (hb2.cell (p := ⟨w.heap.size + 1, 0, none⟩) (by simp <;> omega)).trans ((by simp [go_sem]))
       have k11 : w2.cell? ⟨w.heap.size + 1, 1, none⟩ = some (.int .i64 0) := (hb2.cell (p := ⟨w.heap.size + 1, 1, none⟩) (by simp <;> omega)).trans ((by simp [go_sem]))
       have k12 : w2.cell? ⟨w.heap.size + 1, 2, none⟩ = some (.int .i64 0) := (hb2.cell (p := ⟨w.heap.size + 1, 2, none⟩) (by simp <;> omega)).trans ((by simp [go_sem]))
       have k13 : w2.cell? ⟨w.heap.size + 1, 3, none⟩ = some (.slice none 0 0) := (hb2.cell (p := ⟨w.heap.size + 1, 3, none⟩) (by simp <;> omega)).trans ((by simp [go_sem]))
       have R2 := Lib.hid ((hr2.out _ _).below (hb2.mono (by simp; omega)))
       have f0' : w2.cell? ⟨b, off, none⟩ = some (.int .u8 c0.toNat) := (hb2.cell (p := ⟨b, off, none⟩) (by simp; omega)).trans (h0 _ _))
    | (go_at_call 44; (with_reducible refine (HS.out B _ _ _ _ ((((R2.out.setCell (p := ⟨w.heap.size + 1, 0, none⟩) (by simp; omega) _).setCell (p := ⟨w.heap.size + 1, 1, none⟩) (by simp; omega) _).setCell (p := ⟨w.heap.size + 1, 2, none⟩) (by simp; omega) _).setCell (p := ⟨w.heap.size + 1, 3, none⟩) (by simp; omega) _) (by simp; omega) (by unfold maxLen; omega)).mono ?_); rintro e w3 ⟨rfl, hb3⟩
       have hz3 : w.heap.size + 2 ≤ w3.heap.size := (by have := hb3.size; simp at this; omega)
       have zm0 : ∀ o, w3.frozen? ⟨w.heap.size, o, none⟩ = false := fun o => (hb3.frozen (p := ⟨w.heap.size, o, none⟩) (by simp <;> omega)).trans (by simp [go_sem, zk0])
       have zm1 : ∀ o, w3.frozen? ⟨w.heap.size + 1, o, none⟩ = false := fun o => (hb3.frozen (p := ⟨w.heap.size + 1, o, none⟩) (by simp <;> omega)).trans (by simp [go_sem, zk1])
       have m00 := hb3.cell (p := ⟨w.heap.size, 0, none⟩) (by simp <;> omega)
       simp [go_sem, k00] at m00
       have m01 := hb3.cell (p := ⟨w.heap.size, 1, none⟩) (by simp <;> omega)
       simp [go_sem, k01] at m01
       have m02 := hb3.cell (p := ⟨w.heap.size, 2, none⟩) (by simp <;> omega)
       simp [go_sem, k02] at m02
       have m03 := hb3.cell (p := ⟨w.heap.size, 3, none⟩) (by simp <;> omega)
       simp [go_sem, k03] at m03
       have m10 := hb3.cell (p := ⟨w.heap.size + 1, 0, none⟩) (by simp <;> omega)
       simp [go_sem, k10] at m10
       have m11 := hb3.cell (p := ⟨w.heap.size + 1, 1, none⟩) (by simp <;> omega)
       simp [go_sem, k11] at m11
       have m12 := hb3.cell (p := ⟨w.heap.size + 1, 2, none⟩) (by simp <;> omega)
       simp [go_sem, k12] at m12
       have m13 := hb3.cell (p := ⟨w.heap.size + 1, 3, none⟩) (by simp <;> omega)
       simp [go_sem, k13] at m13))
  have hB0 : ∀ o1 o2, Below w.heap.size w ((w.alloc o1).alloc o2) := fun o1 o2 => ((Below.refl w.heap.size w).alloc (Nat.le_refl _) _).alloc (by simp) _
  have hB2 : Below w.heap.size w w2 := Below.trans (hB0 _ _) (hb2.mono (by simp; omega))
  have hB3 : Below w.heap.size w w3 := Below.trans (((((hB2).setCell (p := ⟨w.heap.size + 1, 0, none⟩) (by simp) (.int .i64 3)).setCell (p := ⟨w.heap.size + 1, 1, none⟩) (by simp) (.int .i64 1)).setCell (p := ⟨w.heap.size + 1, 2, none⟩) (by simp) (.int .i64 10)).setCell (p := ⟨w.heap.size + 1, 3, none⟩) (by simp) (.slice none 0 0)) (hb3.mono (by simp; omega))
  refine bodyPost_ret (v := .agg #[.int .i64 1, .int .i64 M, .int .i64 0, .slice none 0 0]) (by simp [results, Try.results28, go_sem, m00, m01, m02, m03]) rfl ⟨rfl, ?_⟩
  iterate 8 refine Below.setCell ?_ (by simp) _
  exact hB3

set_option maxHeartbeats 4000000 in
theorem next3vm (B : Nat) (b off c : Nat) (n : Nat) (c0 c1 nb : UInt8) (r : List UInt8) (w : World) (hr : Reads w B 1 (some ⟨b, off, none⟩) n ((c0 :: c1 :: nb :: r).map bv)) (hB : B ≤ w.heap.size) (hc : n ≤ c) (hm : c ≤ maxLen) (hb : b < w.heap.size)
    (h0 : ∀ o1 o2, ((w.alloc o1).alloc o2).cell? ⟨b, off, none⟩ = some (.int .u8 c0.toNat)) (h1 : ∀ o1 o2, ((w.alloc o1).alloc o2).cell? ⟨b, off + 1, none⟩ = some (.int .u8 c1.toNat))
    (e0 : ((c0.toNat : Int) != 165) = false) (e1 : ((c1.toNat : Int) != 1) = false) :
    Calls Try.prog 28 #[.slice (some ⟨b, off, none⟩) n c] w fun e w' => ∃ A' k' c', e = .returned (.agg #[.int .i64 ((behindV c1 nb r).kind : Int), .int .i64 ((behindV c1 nb r).size : Int), .int .i64 ((behindV c1 nb r).code : Int), .slice A' k' c']) ∧
      OwnB w' w.heap.size A' k' c' (behindV c1 nb r).body ∧ Below w.heap.size w w' := by
  have hl : r.length + 3 = n := by have := hr.1; simp at this; omega
  have hn : 3 ≤ n := by omega
  clear hl
  have hr2 := Lib.hid (fun o1 o2 => (hr.alloc hB o1).alloc (B := B) (by simp; omega) o2)
  have hne : b ≠ w.heap.size := by omega
  have hne1 : b ≠ w.heap.size + 1 := by omega
  unfold maxLen at hm
  have hmin : (if (3 : Int) < (n : Int) then (3 : Int) else (n : Int)) = 3 := by split <;> omega
  clear hr
  go_enter Try.func28, Try.ntmps28
  go_wp2_with (first
    | (go_at_call 42; (with_reducible refine (body_any B _ n c c0 c1 nb r _ (hr2.out _ _) (by simp; omega) hc (by unfold maxLen; omega)).mono ?_); rintro e w1 ⟨A', k', c', rfl, hown, hb1⟩
       have hz : w.heap.size + 2 ≤ w1.heap.size := (by have := hb1.size; simp at this; omega)
       generalize hF1 : (behindV c1 nb r).kind = F1 at *
       have HF1 := Lib.hid hF1
       clear hF1
       generalize hF2 : (behindV c1 nb r).size = F2 at *
       have HF2 := Lib.hid hF2
       clear hF2
       generalize hF3 : (behindV c1 nb r).code = F3 at *
       have HF3 := Lib.hid hF3
       clear hF3
       have zg0 : ∀ o, w1.frozen? ⟨w.heap.size, o, none⟩ = false := fun o => (hb1.frozen (p := ⟨w.heap.size, o, none⟩) (by simp <;> omega)).trans (by simp [go_sem])
       have zg1 : ∀ o, w1.frozen? ⟨w.heap.size + 1, o, none⟩ = false := fun o => (hb1.frozen (p := ⟨w.heap.size + 1, o, none⟩) (by simp <;> omega)).trans (by simp [go_sem])
       have g00 : w1.cell? ⟨w.heap.size, 0, none⟩ = some (.int .i64 0) := (hb1.cell (p := ⟨w.heap.size, 0, none⟩) (by simp <;> omega)).trans ((World.cell?_alloc_lt _ _ _ (by simp)).trans (by simp [go_sem]))
       have g01 : w1.cell? ⟨w.heap.size, 1, none⟩ = some (.int .i64 0) := (hb1.cell (p := ⟨w.heap.size, 1, none⟩) (by simp <;> omega)).trans ((World.cell?_alloc_lt _ _ _ (by simp)).trans (by simp [go_sem]))
       have g02 : w1.cell? ⟨w.heap.size, 2, none⟩ = some (.int .i64 0) := (hb1.cell (p := ⟨w.heap.size, 2, none⟩) (by simp <;> omega)).trans ((World.cell?_alloc_lt _ _ _ (by simp)).trans (by simp [go_sem]))
       have g03 : w1.cell? ⟨w.heap.size, 3, none⟩ = some (.slice none 0 0) := (hb1.cell (p := ⟨w.heap.size, 3, none⟩) (by simp <;> omega)).trans ((World.cell?_alloc_lt _ _ _ (by simp)).trans (by simp [go_sem]))
       have g10 : w1.cell? ⟨w.heap.size + 1, 0, none⟩ = some (.int .i64 0) := (hb1.cell (p := ⟨w.heap.size + 1, 0, none⟩) (by simp <;> omega)).trans ((by simp [go_sem]))
       have g11 : w1.cell? ⟨w.heap.size + 1, 1, none⟩ = some (.int .i64 0) := (hb1.cell (p := ⟨w.heap.size + 1, 1, none⟩) (by simp <;> omega)).trans ((by simp [go_sem]))
       have g12 : w1.cell? ⟨w.heap.size + 1, 2, none⟩ = some (.int .i64 0) := (hb1.cell (p := ⟨w.heap.size + 1, 2, none⟩) (by simp <;> omega)).trans ((by simp [go_sem]))
       have g13 : w1.cell? ⟨w.heap.size + 1, 3, none⟩ = some (.slice none 0 0) := (hb1.cell (p := ⟨w.heap.size + 1, 3, none⟩) (by simp <;> omega)).trans ((by simp [go_sem]))
       have R1 := Lib.hid ((hr2.out _ _).below (hb1.mono (by simp; omega)))
       have f0 : w1.cell? ⟨b, off, none⟩ = some (.int .u8 c0.toNat) := (hb1.cell (p := ⟨b, off, none⟩) (by simp; omega)).trans (h0 _ _)
       have f1 : w1.cell? ⟨b, off + 1, none⟩ = some (.int .u8 c1.toNat) := (hb1.cell (p := ⟨b, off + 1, none⟩) (by simp; omega)).trans (h1 _ _)))
  have hB0 : ∀ o1 o2, Below w.heap.size w ((w.alloc o1).alloc o2) := fun o1 o2 => ((Below.refl w.heap.size w).alloc (Nat.le_refl _) _).alloc (by simp) _
  have hB1 : Below w.heap.size w w1 := (hB0 _ _).trans (hb1.mono (by simp; omega))
  refine bodyPost_ret (v := .agg #[.int .i64 (F1 : Int), .int .i64 (F2 : Int), .int .i64 (F3 : Int), .slice A' k' c']) (by simp [results, Try.results28, go_sem, g00, g01, g02, g03]) rfl ⟨A', k', c', by rw [HF1.out, HF2.out, HF3.out], ?_, ?_⟩
  · refine OwnB.base (base := w.heap.size + 2) ?_ (by omega)
    iterate 8 refine OwnB.setBelow ?_ (by simp) _
    exact hown.base (by simp)
  · iterate 8 refine Below.setCell ?_ (by simp) _
    exact hB1

set_option maxHeartbeats 4000000 in
theorem next3vs (B : Nat) (b off c : Nat) (n : Nat) (c0 c1 nb : UInt8) (r : List UInt8) (w : World) (hr : Reads w B 1 (some ⟨b, off, none⟩) n ((c0 :: c1 :: nb :: r).map bv)) (hB : B ≤ w.heap.size) (hc : n ≤ c) (hm : c ≤ maxLen) (hb : b < w.heap.size)
    (h0 : ∀ o1 o2, ((w.alloc o1).alloc o2).cell? ⟨b, off, none⟩ = some (.int .u8 c0.toNat)) (h1 : ∀ o1 o2, ((w.alloc o1).alloc o2).cell? ⟨b, off + 1, none⟩ = some (.int .u8 c1.toNat))
    (e0 : ((c0.toNat : Int) != 165) = true) (e1 : ((c1.toNat : Int) != 1) = false) :
    Calls Try.prog 28 #[.slice (some ⟨b, off, none⟩) n c] w fun e w' => e = .returned (.agg #[.int .i64 1, .int .i64 (Fr.ahead (c0 :: c1 :: nb :: r) : Int), .int .i64 0, .slice none 0 0]) ∧ Below w.heap.size w w' := by
  have hl : r.length + 3 = n := by have := hr.1; simp at this; omega
  have hn : 3 ≤ n := by omega
  clear hl
  have hr2 := Lib.hid (fun o1 o2 => (hr.alloc hB o1).alloc (B := B) (by simp; omega) o2)
  have hne : b ≠ w.heap.size := by omega
  have hne1 : b ≠ w.heap.size + 1 := by omega
  unfold maxLen at hm
  have hmin : (if (3 : Int) < (n : Int) then (3 : Int) else (n : Int)) = 3 := by split <;> omega
  have HS := Lib.hid (fun B A n c w hr hB hn => skip_any B A n c (c0 :: c1 :: nb :: r) w hr hB hn)
  generalize (Fr.ahead (c0 :: c1 :: nb :: r) : Int) = M at *
  clear hr
  go_enter Try.func28, Try.ntmps28
  go_wp2_with (first
    | (go_at_call 42; (with_reducible refine (body_any B _ n c c0 c1 nb r _ (hr2.out _ _) (by simp; omega) hc (by unfold maxLen; omega)).mono ?_); rintro e w1 ⟨A', k', c', rfl, hown, hb1⟩
       have hz : w.heap.size + 2 ≤ w1.heap.size := (by have := hb1.size; simp at this; omega)
       generalize hF1 : (behindV c1 nb r).kind = F1 at *
       have HF1 := Lib.hid hF1
       clear hF1
       generalize hF2 : (behindV c1 nb r).size = F2 at *
       have HF2 := Lib.hid hF2
       clear hF2
       generalize hF3 : (behindV c1 nb r).code = F3 at *
       have HF3 := Lib.hid hF3
       clear hF3
       have zg0 : ∀ o, w1.frozen? ⟨w.heap.size, o, none⟩ = false := fun o => (hb1.frozen (p := ⟨w.heap.size, o, none⟩) (by simp <;> omega)).trans (by simp [go_sem])
       have zg1 : ∀ o, w1.frozen? ⟨w.heap.size + 1, o, none⟩ = false := fun o => (hb1.frozen (p := ⟨w.heap.size + 1, o, none⟩) (by simp <;> omega)).trans (by simp [go_sem])
       have g00 : w1.cell? ⟨w.heap.size, 0, none⟩ = some (.int .i64 0) := (hb1.cell (p := ⟨w.heap.size, 0, none⟩) (by simp <;> omega)).trans ((World.cell?_alloc_lt _ _ _ (by simp)).trans (by simp [go_sem]))
       have g01 : w1.cell? ⟨w.heap.size, 1, none⟩ = some (.int .i64 0) := (hb1.cell (p := ⟨w.heap.size, 1, none⟩) (by simp <;> omega)).trans ((World.cell?_alloc_lt _ _ _ (by simp)).trans (by simp [go_sem]))
       have g02 : w1.cell? ⟨w.heap.size, 2, none⟩ = some (.int .i64 0) := (hb1.cell (p := ⟨w.heap.size, 2, none⟩) (by simp <;> omega)).trans ((World.cell?_alloc_lt _ _ _ (by simp)).trans (by simp [go_sem]))
       have g03 : w1.cell? ⟨w.heap.size, 3, none⟩ = some (.slice none 0 0) := (hb1.cell (p := ⟨w.heap.size, 3, none⟩) (by simp <;> omega)).trans ((World.cell?_alloc_lt _ _ _ (by simp)).trans (by simp [go_sem]))
       have g10 : w1.cell? ⟨w.heap.size + 1, 0, none⟩ = some (.int .i64 0) := (hb1.cell (p := ⟨w.heap.size + 1, 0, none⟩) (by simp <;> omega)).trans ((by simp [go_sem]))
       have g11 : w1.cell? ⟨w.heap.size + 1, 1, none⟩ = some (.int .i64 0) := (hb1.cell (p := ⟨w.heap.size + 1, 1, none⟩) (by simp <;> omega)).trans ((by simp [go_sem]))
       have g12 : w1.cell? ⟨w.heap.size + 1, 2, none⟩ = some (.int .i64 0) := (hb1.cell (p := ⟨w.heap.size + 1, 2, none⟩) (by simp <;> omega)).trans ((by simp [go_sem]))
       have g13 : w1.cell? ⟨w.heap.size + 1, 3, none⟩ = some (.slice none 0 0) := (hb1.cell (p := ⟨w.heap.size + 1, 3, none⟩) (by simp <;> omega)).trans ((by simp [go_sem]))
       have R1 := Lib.hid ((hr2.out _ _).below (hb1.mono (by simp; omega)))
       have f0 : w1.cell? ⟨b, off, none⟩ = some (.int .u8 c0.toNat) := (hb1.cell (p := ⟨b, off, none⟩) (by simp; omega)).trans (h0 _ _)
       have f1 : w1.cell? ⟨b, off + 1, none⟩ = some (.int .u8 c1.toNat) := (hb1.cell (p := ⟨b, off + 1, none⟩) (by simp; omega)).trans (h1 _ _))
    | (go_at_call 44; (with_reducible refine (HS.out B _ _ _ _ ((((R1.out.setCell (p := ⟨w.heap.size + 1, 0, none⟩) (by simp; omega) _).setCell (p := ⟨w.heap.size + 1, 1, none⟩) (by simp; omega) _).setCell (p := ⟨w.heap.size + 1, 2, none⟩) (by simp; omega) _).setCell (p := ⟨w.heap.size + 1, 3, none⟩) (by simp; omega) _) (by simp; omega) (by unfold maxLen; omega)).mono ?_); rintro e w3 ⟨rfl, hb3⟩
       have hz3 : w.heap.size + 2 ≤ w3.heap.size := (by have := hb3.size; simp at this; omega)
       have zm0 : ∀ o, w3.frozen? ⟨w.heap.size, o, none⟩ = false := fun o => (hb3.frozen (p := ⟨w.heap.size, o, none⟩) (by simp <;> omega)).trans (by simp [go_sem, zg0])
       have zm1 : ∀ o, w3.frozen? ⟨w.heap.size + 1, o, none⟩ = false := fun o => (hb3.frozen (p := ⟨w.heap.size + 1, o, none⟩) (by simp <;> omega)).trans (by simp [go_sem, zg1])
       have m00 := hb3.cell (p := ⟨w.heap.size, 0, none⟩) (by simp <;> omega)
       simp [go_sem, g00] at m00
       have m01 := hb3.cell (p := ⟨w.heap.size, 1, none⟩) (by simp <;> omega)
       simp [go_sem, g01] at m01
       have m02 := hb3.cell (p := ⟨w.heap.size, 2, none⟩) (by simp <;> omega)
       simp [go_sem, g02] at m02
       have m03 := hb3.cell (p := ⟨w.heap.size, 3, none⟩) (by simp <;> omega)
       simp [go_sem, g03] at m03
       have m10 := hb3.cell (p := ⟨w.heap.size + 1, 0, none⟩) (by simp <;> omega)
       simp [go_sem, g10] at m10
       have m11 := hb3.cell (p := ⟨w.heap.size + 1, 1, none⟩) (by simp <;> omega)
       simp [go_sem, g11] at m11
       have m12 := hb3.cell (p := ⟨w.heap.size + 1, 2, none⟩) (by simp <;> omega)
       simp [go_sem, g12] at m12
       have m13 := hb3.cell (p := ⟨w.heap.size + 1, 3, none⟩) (by simp <;> omega)
       simp [go_sem, g13] at m13))
  have hB0 : ∀ o1 o2, Below w.heap.size w ((w.alloc o1).alloc o2) := fun o1 o2 => ((Below.refl w.heap.size w).alloc (Nat.le_refl _) _).alloc (by simp) _
  have hB1 : Below w.heap.size w w1 := (hB0 _ _).trans (hb1.mono (by simp; omega))
  have hB3 : Below w.heap.size w w3 := Below.trans (((((hB1).setCell (p := ⟨w.heap.size + 1, 0, none⟩) (by simp) (.int .i64 F1)).setCell (p := ⟨w.heap.size + 1, 1, none⟩) (by simp) (.int .i64 F2)).setCell (p := ⟨w.heap.size + 1, 2, none⟩) (by simp) (.int .i64 F3)).setCell (p := ⟨w.heap.size + 1, 3, none⟩) (by simp) (.slice A' k' c')) (hb3.mono (by simp; omega))
  refine bodyPost_ret (v := .agg #[.int .i64 1, .int .i64 M, .int .i64 0, .slice none 0 0]) (by simp [results, Try.results28, go_sem, m00, m01, m02, m03]) rfl ⟨rfl, ?_⟩
  iterate 8 refine Below.setCell ?_ (by simp) _
  exact hB3

set_option maxHeartbeats 4000000 in
theorem next3xm (B : Nat) (b off c : Nat) (n : Nat) (c0 c1 nb : UInt8) (r : List UInt8) (w : World) (hr : Reads w B 1 (some ⟨b, off, none⟩) n ((c0 :: c1 :: nb :: r).map bv)) (hB : B ≤ w.heap.size) (hc : n ≤ c) (hm : c ≤ maxLen) (hb : b < w.heap.size)
    (h0 : ∀ o1 o2, ((w.alloc o1).alloc o2).cell? ⟨b, off, none⟩ = some (.int .u8 c0.toNat)) (h1 : ∀ o1 o2, ((w.alloc o1).alloc o2).cell? ⟨b, off + 1, none⟩ = some (.int .u8 c1.toNat))
    (e0 : ((c0.toNat : Int) != 165) = false) (e1 : ((c1.toNat : Int) != 1) = true) :
    Calls Try.prog 28 #[.slice (some ⟨b, off, none⟩) n c] w fun e w' => e = .returned (.agg #[.int .i64 3, .int .i64 1, .int .i64 10, .slice none 0 0]) ∧ Below w.heap.size w w' := by
  have hl : r.length + 3 = n := by have := hr.1; simp at this; omega
  have hn : 3 ≤ n := by omega
  clear hl
  have hr2 := Lib.hid (fun o1 o2 => (hr.alloc hB o1).alloc (B := B) (by simp; omega) o2)
  have hne : b ≠ w.heap.size := by omega
  have hne1 : b ≠ w.heap.size + 1 := by omega
  unfold maxLen at hm
  have hmin : (if (3 : Int) < (n : Int) then (3 : Int) else (n : Int)) = 3 := by split <;> omega
  clear hr
  go_enter Try.func28, Try.ntmps28
  go_wp2_with (first
    | (go_at_call 42; (with_reducible refine (body_any B _ n c c0 c1 nb r _ (hr2.out _ _) (by simp; omega) hc (by unfold maxLen; omega)).mono ?_); rintro e w1 ⟨A', k', c', rfl, hown, hb1⟩
       have hz : w.heap.size + 2 ≤ w1.heap.size := (by have := hb1.size; simp at this; omega)
       generalize hF1 : (behindV c1 nb r).kind = F1 at *
       have HF1 := Lib.hid hF1
       clear hF1
       generalize hF2 : (behindV c1 nb r).size = F2 at *
       have HF2 := Lib.hid hF2
       clear hF2
       generalize hF3 : (behindV c1 nb r).code = F3 at *
       have HF3 := Lib.hid hF3
       clear hF3
       have zg0 : ∀ o, w1.frozen? ⟨w.heap.size, o, none⟩ = false := fun o => (hb1.frozen (p := ⟨w.heap.size, o, none⟩) (by simp <;> omega)).trans (by simp [go_sem])
       have zg1 : ∀ o, w1.frozen? ⟨w.heap.size + 1, o, none⟩ = false := fun o => (hb1.frozen (p := ⟨w.heap.size + 1, o, none⟩) (by simp <;> omega)).trans (by simp [go_sem])
       have g00 : w1.cell? ⟨w.heap.size, 0, none⟩ = some (.int .i64 0) := (hb1.cell (p := ⟨w.heap.size, 0, none⟩) (by simp <;> omega)).trans ((World.cell?_alloc_lt _ _ _ (by simp)).trans (by simp [go_sem]))
       have g01 : w1.cell? ⟨w.heap.size, 1, none⟩ = some (.int .i64 0) := (hb1.cell (p := ⟨w.heap.size, 1, none⟩) (by simp <;> omega)).trans ((World.cell?_alloc_lt _ _ _ (by simp)).trans (by simp [go_sem]))
       have g02 : w1.cell? ⟨w.heap.size, 2, none⟩ = some (.int .i64 0) := (hb1.cell (p := ⟨w.heap.size, 2, none⟩) (by simp <;> omega)).trans ((World.cell?_alloc_lt _ _ _ (by simp)).trans (by simp [go_sem]))
       have g03 : w1.cell? ⟨w.heap.size, 3, none⟩ = some (.slice none 0 0) := (hb1.cell (p := ⟨w.heap.size, 3, none⟩) (by simp <;> omega)).trans ((World.cell?_alloc_lt _ _ _ (by simp)).trans (by simp [go_sem]))
       have g10 : w1.cell? ⟨w.heap.size + 1, 0, none⟩ = some (.int .i64 0) := (hb1.cell (p := ⟨w.heap.size + 1, 0, none⟩) (by simp <;> omega)).trans ((by simp [go_sem]))
       have g11 : w1.cell? ⟨w.heap.size + 1, 1, none⟩ = some (.int .i64 0) := (hb1.cell (p := ⟨w.heap.size + 1, 1, none⟩) (by simp <;> omega)).trans ((by simp [go_sem]))
       have g12 : w1.cell? ⟨w.heap.size + 1, 2, none⟩ = some (.int .i64 0) := (hb1.cell (p := ⟨w.heap.size + 1, 2, none⟩) (by simp <;> omega)).trans ((by simp [go_sem]))
       have g13 : w1.cell? ⟨w.heap.size + 1, 3, none⟩ = some (.slice none 0 0) := (hb1.cell (p := ⟨w.heap.size + 1, 3, none⟩) (by simp <;> omega)).trans ((by simp [go_sem]))
       have R1 := Lib.hid ((hr2.out _ _).below (hb1.mono (by simp; omega)))
       have f0 : w1.cell? ⟨b, off, none⟩ = some (.int .u8 c0.toNat) := (hb1.cell (p := ⟨b, off, none⟩) (by simp; omega)).trans (h0 _ _)
       have f1 : w1.cell? ⟨b, off + 1, none⟩ = some (.int .u8 c1.toNat) := (hb1.cell (p := ⟨b, off + 1, none⟩) (by simp; omega)).trans (h1 _ _))
    | (go_at_call 43; (with_reducible refine (reject_any _ _).mono ?_); rintro e w2 ⟨rfl, hb2⟩
       have hz2 : w.heap.size + 2 ≤ w2.heap.size := (by have := hb2.size; simp at this; omega)
       have zk0 : ∀ o, w2.frozen? ⟨w.heap.size, o, none⟩ = false := fun o => (hb2.frozen (p := ⟨w.heap.size, o, none⟩) (by simp <;> omega)).trans (by simp [go_sem, zg0])
       have zk1 : ∀ o, w2.frozen? ⟨w.heap.size + 1, o, none⟩ = false := fun o => (hb2.frozen (p := ⟨w.heap.size + 1, o, none⟩) (by simp <;> omega)).trans (by simp [go_sem, zg1])
       have k00 := hb2.cell (p := ⟨w.heap.size, 0, none⟩) (by simp <;> omega)
       simp [go_sem, g00] at k00
       have k01 := hb2.cell (p := ⟨w.heap.size, 1, none⟩) (by simp <;> omega)
       simp [go_sem, g01] at k01
       have k02 := hb2.cell (p := ⟨w.heap.size, 2, none⟩) (by simp <;> omega)
       simp [go_sem, g02] at k02
       have k03 := hb2.cell (p := ⟨w.heap.size, 3, none⟩) (by simp <;> omega)
       simp [go_sem, g03] at k03
       have k10 := hb2.cell (p := ⟨w.heap.size + 1, 0, none⟩) (by simp <;> omega)
       simp [go_sem, g10] at k10
       have k11 := hb2.cell (p := ⟨w.heap.size + 1, 1, none⟩) (by simp <;> omega)
       simp [go_sem, g11] at k11
       have k12 := hb2.cell (p := ⟨w.heap.size + 1, 2, none⟩) (by simp <;> omega)
       simp [go_sem, g12] at k12
       have k13 := hb2.cell (p := ⟨w.heap.size + 1, 3, none⟩) (by simp <;> omega)
       simp [go_sem, g13] at k13
       have R2 := Lib.hid (((((R1.out.setCell (p := ⟨w.heap.size + 1, 0, none⟩) (by simp; omega) _).setCell (p := ⟨w.heap.size + 1, 1, none⟩) (by simp; omega) _).setCell (p := ⟨w.heap.size + 1, 2, none⟩) (by simp; omega) _).setCell (p := ⟨w.heap.size + 1, 3, none⟩) (by simp; omega) _).below (hb2.mono (by simp; omega)))
       have f0' : w2.cell? ⟨b, off, none⟩ = some (.int .u8 c0.toNat) := (hb2.cell (p := ⟨b, off, none⟩) (by simp; omega)).trans (by simp [go_sem, f0])))
  have hB0 : ∀ o1 o2, Below w.heap.size w ((w.alloc o1).alloc o2) := fun o1 o2 => ((Below.refl w.heap.size w).alloc (Nat.le_refl _) _).alloc (by simp) _
  have hB1 : Below w.heap.size w w1 := (hB0 _ _).trans (hb1.mono (by simp; omega))
  have hB2 : Below w.heap.size w w2 := Below.trans (((((hB1).setCell (p := ⟨w.heap.size + 1, 0, none⟩) (by simp) (.int .i64 F1)).setCell (p := ⟨w.heap.size + 1, 1, none⟩) (by simp) (.int .i64 F2)).setCell (p := ⟨w.heap.size + 1, 2, none⟩) (by simp) (.int .i64 F3)).setCell (p := ⟨w.heap.size + 1, 3, none⟩) (by simp) (.slice A' k' c')) (hb2.mono (by simp; omega))
  refine bodyPost_ret (v := .agg #[.int .i64 3, .int .i64 1, .int .i64 10, .slice none 0 0]) (by simp [results, Try.results28, go_sem, k00, k01, k02, k03]) rfl ⟨rfl, ?_⟩
  iterate 8 refine Below.setCell ?_ (by simp) _
  exact hB2

set_option maxHeartbeats 4000000 in
theorem next3xs (B : Nat) (b off c : Nat) (n : Nat) (c0 c1 nb : UInt8) (r : List UInt8) (w : World) (hr : Reads w B 1 (some ⟨b, off, none⟩) n ((c0 :: c1 :: nb :: r).map bv)) (hB : B ≤ w.heap.size) (hc : n ≤ c) (hm : c ≤ maxLen) (hb : b < w.heap.size)
    (h0 : ∀ o1 o2, ((w.alloc o1).alloc o2).cell? ⟨b, off, none⟩ = some (.int .u8 c0.toNat)) (h1 : ∀ o1 o2, ((w.alloc o1).alloc o2).cell? ⟨b, off + 1, none⟩ = some (.int .u8 c1.toNat))
    (e0 : ((c0.toNat : Int) != 165) = true) (e1 : ((c1.toNat : Int) != 1) = true) :
    Calls Try.prog 28 #[.slice (some ⟨b, off, none⟩) n c] w fun e w' => e = .returned (.agg #[.int .i64 1, .int .i64 (Fr.ahead (c0 :: c1 :: nb :: r) : Int), .int .i64 0, .slice none 0 0]) ∧ Below w.heap.size w w' := by
  have hl : r.length + 3 = n := by have := hr.1; simp at this; omega
  have hn : 3 ≤ n := by omega
  clear hl
  have hr2 := Lib.hid (fun o1 o2 => (hr.alloc hB o1).alloc (B := B) (by simp; omega) o2)
  have hne : b ≠ w.heap.size := by omega
  have hne1 : b ≠ w.heap.size + 1 := by omega
  unfold maxLen at hm
  have hmin : (if (3 : Int) < (n : Int) then (3 : Int) else (n : Int)) = 3 := by split <;> omega
  have HS := Lib.hid (fun B A n c w hr hB hn => skip_any B A n c (c0 :: c1 :: nb :: r) w hr hB hn)
  generalize (Fr.ahead (c0 :: c1 :: nb :: r) : Int) = M at *
  clear hr
  go_enter Try.func28, Try.ntmps28
  go_wp2_with (first
    | (go_at_call 42; (with_reducible refine (body_any B _ n c c0 c1 nb r _ (hr2.out _ _) (by simp; omega) hc (by unfold maxLen; omega)).mono ?_); rintro e w1 ⟨A', k', c', rfl, hown, hb1⟩
       have hz : w.heap.size + 2 ≤ w1.heap.size := (by have := hb1.size; simp at this; omega)
       generalize hF1 : (behindV c1 nb r).kind = F1 at *
       have HF1 := Lib.hid hF1
       clear hF1
       generalize hF2 : (behindV c1 nb r).size = F2 at *
       have HF2 := Lib.hid hF2
       clear hF2
       generalize hF3 : (behindV c1 nb r).code = F3 at *
       have HF3 := Lib.hid hF3
       clear hF3
       have zg0 : ∀ o, w1.frozen? ⟨w.heap.size, o, none⟩ = false := fun o => (hb1.frozen (p := ⟨w.heap.size, o, none⟩) (by simp <;> omega)).trans (by simp [go_sem])
       have zg1 : ∀ o, w1.frozen? ⟨w.heap.size + 1, o, none⟩ = false := fun o => (hb1.frozen (p := ⟨w.heap.size + 1, o, none⟩) (by simp <;> omega)).trans (by simp [go_sem])
       have g00 : w1.cell? ⟨w.heap.size, 0, none⟩ = some (.int .i64 0) := (hb1.cell (p := ⟨w.heap.size, 0, none⟩) (by simp <;> omega)).trans ((World.cell?_alloc_lt _ _ _ (by simp)).trans (by simp [go_sem]))
       have g01 : w1.cell? ⟨w.heap.size, 1, none⟩ = some (.int .i64 0) := (hb1.cell (p := ⟨w.heap.size, 1, none⟩) (by simp <;> omega)).trans ((World.cell?_alloc_lt _ _ _ (by simp)).trans (by simp [go_sem]))
       have g02 : w1.cell? ⟨w.heap.size, 2, none⟩ = some (.int .i64 0) := (hb1.cell (p := ⟨w.heap.size, 2, none⟩) (by simp <;> omega)).trans ((World.cell?_alloc_lt _ _ _ (by simp)).trans (by simp [go_sem]))
       have g03 : w1.cell? ⟨w.heap.size, 3, none⟩ = some (.slice none 0 0) := (hb1.cell (p := ⟨w.heap.size, 3, none⟩) (by simp <;> omega)).trans ((World.cell?_alloc_lt _ _ _ (by simp)).trans (by simp [go_sem]))
       have g10 : w1.cell? ⟨w.heap.size + 1, 0, none⟩ = some (.int .i64 0) := (hb1.cell (p := ⟨w.heap.size + 1, 0, none⟩) (by simp <;> omega)).trans ((by simp [go_sem]))
       have g11 : w1.cell? ⟨w.heap.size + 1, 1, none⟩ = some (.int .i64 0) := (hb1.cell (p := ⟨w.heap.size + 1, 1, none⟩) (by simp <;> omega)).trans ((by simp [go_sem]))
       have g12 : w1.cell? ⟨w.heap.size + 1, 2, none⟩ = some (.int .i64 0) := (hb1.cell (p := ⟨w.heap.size + 1, 2, none⟩) (by simp <;> omega)).trans ((by simp [go_sem]))
       have g13 : w1.cell? ⟨w.heap.size + 1, 3, none⟩ = some (.slice none 0 0) := (hb1.cell (p := ⟨w.heap.size + 1, 3, none⟩) (by simp <;> omega)).trans ((by simp [go_sem]))
       have R1 := Lib.hid ((hr2.out _ _).below (hb1.mono (by simp; omega)))
       have f0 : w1.cell? ⟨b, off, none⟩ = some (.int .u8 c0.toNat) := (hb1.cell (p := ⟨b, off, none⟩) (by simp; omega)).trans (h0 _ _)
       have f1 : w1.cell? ⟨b, off + 1, none⟩ = some (.int .u8 c1.toNat) := (hb1.cell (p := ⟨b, off + 1, none⟩) (by simp; omega)).trans (h1 _ _))
    | (go_at_call 43; (with_reducible refine (reject_any _ _).mono ?_); rintro e w2 ⟨rfl, hb2⟩
       have hz2 : w.heap.size + 2 ≤ w2.heap.size := (by have := hb2.size; simp at this; omega)
       have zk0 : ∀ o, w2.frozen? ⟨w.heap.size, o, none⟩ = false := fun o => (hb2.frozen (p := ⟨w.heap.size, o, none⟩) (by simp <;> omega)).trans (by simp [go_sem, zg0])
       have zk1 : ∀ o, w2.frozen? ⟨w.heap.size + 1, o, none⟩ = false := fun o => (hb2.frozen (p := ⟨w.heap.size + 1, o, none⟩) (by simp <;> omega)).trans (by simp [go_sem, zg1])
       have k00 := hb2.cell (p := ⟨w.heap.size, 0, none⟩) (by simp <;> omega)
       simp [go_sem, g00] at k00
       have k01 := hb2.cell (p := ⟨w.heap.size, 1, none⟩) (by simp <;> omega)
       simp [go_sem, g01] at k01
       have k02 := hb2.cell (p := ⟨w.heap.size, 2, none⟩) (by simp <;> omega)
       simp [go_sem, g02] at k02
       have k03 := hb2.cell (p := ⟨w.heap.size, 3, none⟩) (by simp <;> omega)
       simp [go_sem, g03] at k03
       have k10 := hb2.cell (p := ⟨w.heap.size + 1, 0, none⟩) (by simp <;> omega)
       simp [go_sem, g10] at k10
       have k11 := hb2.cell (p := ⟨w.heap.size + 1, 1, none⟩) (by simp <;> omega)
       simp [go_sem, g11] at k11
       have k12 := hb2.cell (p := ⟨w.heap.size + 1, 2, none⟩) (by simp <;> omega)
       simp [go_sem, g12] at k12
       have k13 := hb2.cell (p := ⟨w.heap.size + 1, 3, none⟩) (by simp <;> omega)
       simp [go_sem, g13] at k13
       have R2 := Lib.hid (((((R1.out.setCell (p := ⟨w.heap.size + 1, 0, none⟩) (by simp; omega) _).setCell (p := ⟨w.heap.size + 1, 1, none⟩) (by simp; omega) _).setCell (p := ⟨w.heap.size + 1, 2, none⟩) (by simp; omega) _).setCell (p := ⟨w.heap.size + 1, 3, none⟩) (by simp; omega) _).below (hb2.mono (by simp; omega)))
       have f0' : w2.cell? ⟨b, off, none⟩ = some (.int .u8 c0.toNat) := (hb2.cell (p := ⟨b, off, none⟩) (by simp; omega)).trans (by simp [go_sem, f0]))
    | (go_at_call 44; (with_reducible refine (HS.out B _ _ _ _ ((((R2.out.setCell (p := ⟨w.heap.size + 1, 0, none⟩) (by simp; omega) _).setCell (p := ⟨w.heap.size + 1, 1, none⟩) (by simp; omega) _).setCell (p := ⟨w.heap.size + 1, 2, none⟩) (by simp; omega) _).setCell (p := ⟨w.heap.size + 1, 3, none⟩) (by simp; omega) _) (by simp; omega) (by unfold maxLen; omega)).mono ?_); rintro e w3 ⟨rfl, hb3⟩
       have hz3 : w.heap.size + 2 ≤ w3.heap.size := (by have := hb3.size; simp at this; omega)
       have zm0 : ∀ o, w3.frozen? ⟨w.heap.size, o, none⟩ = false := fun o => (hb3.frozen (p := ⟨w.heap.size, o, none⟩) (by simp <;> omega)).trans (by simp [go_sem, zk0])
       have zm1 : ∀ o, w3.frozen? ⟨w.heap.size + 1, o, none⟩ = false := fun o => (hb3.frozen (p := ⟨w.heap.size + 1, o, none⟩) (by simp <;> omega)).trans (by simp [go_sem, zk1])
       have m00 := hb3.cell (p := ⟨w.heap.size, 0, none⟩) (by simp <;> omega)
       simp [go_sem, k00] at m00
       have m01 := hb3.cell (p := ⟨w.heap.size, 1, none⟩) (by simp <;> omega)
       simp [go_sem, k01] at m01
       have m02 := hb3.cell (p := ⟨w.heap.size, 2, none⟩) (by simp <;> omega)
       simp [go_sem, k02] at m02
       have m03 := hb3.cell (p := ⟨w.heap.size, 3, none⟩) (by simp <;> omega)
       simp [go_sem, k03] at m03
       have m10 := hb3.cell (p := ⟨w.heap.size + 1, 0, none⟩) (by simp <;> omega)
       simp [go_sem, k10] at m10
       have m11 := hb3.cell (p := ⟨w.heap.size + 1, 1, none⟩) (by simp <;> omega)
       simp [go_sem, k11] at m11
       have m12 := hb3.cell (p := ⟨w.heap.size + 1, 2, none⟩) (by simp <;> omega)
       simp [go_sem, k12] at m12
       have m13 := hb3.cell (p := ⟨w.heap.size + 1, 3, none⟩) (by simp <;> omega)
       simp [go_sem, k13] at m13))
  have hB0 : ∀ o1 o2, Below w.heap.size w ((w.alloc o1).alloc o2) := fun o1 o2 => ((Below.refl w.heap.size w).alloc (Nat.le_refl _) _).alloc (by simp) _
  have hB1 : Below w.heap.size w w1 := (hB0 _ _).trans (hb1.mono (by simp; omega))
  have hB2 : Below w.heap.size w w2 := Below.trans (((((hB1).setCell (p := ⟨w.heap.size + 1, 0, none⟩) (by simp) (.int .i64 F1)).setCell (p := ⟨w.heap.size + 1, 1, none⟩) (by simp) (.int .i64 F2)).setCell (p := ⟨w.heap.size + 1, 2, none⟩) (by simp) (.int .i64 F3)).setCell (p := ⟨w.heap.size + 1, 3, none⟩) (by simp) (.slice A' k' c')) (hb2.mono (by simp; omega))
  have hB3 : Below w.heap.size w w3 := Below.trans (((((hB2).setCell (p := ⟨w.heap.size + 1, 0, none⟩) (by simp) (.int .i64 3)).setCell (p := ⟨w.heap.size + 1, 1, none⟩) (by simp) (.int .i64 1)).setCell (p := ⟨w.heap.size + 1, 2, none⟩) (by simp) (.int .i64 10)).setCell (p := ⟨w.heap.size + 1, 3, none⟩) (by simp) (.slice none 0 0)) (hb3.mono (by simp; omega))
  refine bodyPost_ret (v := .agg #[.int .i64 1, .int .i64 M, .int .i64 0, .slice none 0 0]) (by simp [results, Try.results28, go_sem, m00, m01, m02, m03]) rfl ⟨rfl, ?_⟩
  iterate 8 refine Below.setCell ?_ (by simp) _
  exact hB3

end Go.Proofs.Ytmjoikjkmdbleaa
