/- The walk of the law CrcParts. -/
import Derived.Test.YtmjoikjkmdbleaaOwn
namespace Go.Proofs.Ytmjoikjkmdbleaa
open Go.RowKit Crc

theorem run_take (s : BitVec 16) (l : List UInt8) (k : Nat) (h : k < l.length) : Crc.run s (l.take (k + 1)) = stp (Crc.run s (l.take k)) l[k] := by
  rw [List.take_succ_eq_append_getElem h]; exact run_snoc _ _ _

set_option maxHeartbeats 1000000 in
theorem parts_walk (A B : Option Addr) (n m c d : Nat) (x y : List UInt8) (w : World) (hx : Reads w w.heap.size 1 A n (x.map bv)) (hy : Reads w w.heap.size 1 B m (y.map bv))
    (hn : n ≤ c) (hc : c ≤ maxLen) (hm : m ≤ d) (hd : d ≤ maxLen) :
    Calls Try.prog 4 #[.slice A n c, .slice B m d] w fun e w' => e = .returned (.bool true) ∧ Below w.heap.size w w' := by
  have hx' := hx.bytesTake (Nat.min_le_left n 300)
  have hy' := hy.bytesTake (Nat.min_le_left m 300)
  have hn3 : min n 300 ≤ 300 := Nat.min_le_right _ _
  have hm3 : min m 300 ≤ 300 := Nat.min_le_right _ _
  clear hx hy
  generalize x.take (min n 300) = x' at *
  generalize y.take (min m 300) = y' at *
  have F1 := Lib.hid (fun w => few_any A n c w hn hc)
  have F2 := Lib.hid (fun w => few_any B m d w hm hd)
  generalize min n 300 = n' at *
  generalize hm' : min m 300 = m' at *
  clear hn hc hm hd hm'
  have hl : y'.length = m' := by simpa using hy'.1
  subst hl
  have hx1 := Lib.hid hx'
  have hn4 : n' ≤ maxLen := by unfold maxLen; omega
  have hm4 : y'.length ≤ maxLen := by unfold maxLen; omega
  clear hx'
  go_enter Try.func4, Try.ntmps4
  go_wp2_with (first
    | (go_at_call 19; (with_reducible refine (shown_any _).mono ?_); rintro e w1 ⟨rfl, hb⟩)
    | (go_at_call 20; (with_reducible refine (F1.out _).mono ?_); rintro e w' ⟨rfl, rfl⟩)
    | (go_at_call 20; (with_reducible refine (F2.out _).mono ?_); rintro e w' ⟨rfl, rfl⟩)
    | (go_at_call 21; (with_reducible refine (sum_any _ _ _ _ _ _ (hx1.out.below hb) hn4).mono ?_); rintro e w' ⟨rfl, rfl⟩))
  have hyw := hy'.below hb
  go_loop [8, 9] (fun s' i => ∃ k : Nat, k ≤ y'.length ∧ i = .int .i64 k ∧ s' = .int .u16 (Crc.run (Crc.sum x') (y'.take k)).toNat) (fun _ i => y'.length - (intOf i).toNat)
  case atStart => exact ⟨0, by omega, rfl, rfl⟩
  case round =>
    obtain ⟨k, hk, rfl, rfl⟩ := hrel
    by_cases hlt : k < y'.length
    · obtain ⟨ad, u, rfl, _, hxx, hcc⟩ := hyw.at_ hlt
      obtain rfl : u = .int .u8 (y'[k].toNat : Int) := by simp [hlt, bv] at hxx; exact hxx.symm
      have hs := Lib.hid (run_take (Crc.sum x') y' k hlt)
      clear hxx
      go_wp2_with (go_at_call 23; refine (step_any _ _ _).mono ?_; rintro e w' ⟨rfl, rfl⟩)
      go_round
      case rel => exact ⟨k + 1, by omega, by go_num, by rw [hs.out]⟩
      case measure => simp [intOf]; omega
    · obtain rfl : k = y'.length := by omega
      have hs1 := hb.size
      have hsum := Lib.hid (sum_append x' y')
      have hx2 := Lib.hid (hx1.out.below hb)
      have hxl : x'.length = n' := by simpa using hx1.out.1
      have hxl2 := Lib.hid hxl
      clear hxl
      go_wp2_with (first
        | (at_builtin
           refine wpList_append_bg rfl (.tmp 32) (.tmp 33) rfl w.heap.size (some ⟨w1.heap.size, 0, none⟩) 0 0 [] rfl (OwnB.made0 w1 hs1) w.heap.size A n' c x' rfl (hx2.out.alloc hs1 _) (by omega) (by simp; omega) ?_
           intro A1 k1 c1 w2 hk1 hk1' hown1 hg1 hat1
           have hb1 : Below w.heap.size w1 w2 := ((Below.refl _ _).alloc hs1 _).grown hg1 (by simp; omega) (by simp [Value.ownBlock]; omega)
           have hs2 := hb1.size)
        | (at_builtin
           refine wpList_append_bg rfl (.tmp 34) (.tmp 35) rfl w.heap.size A1 k1 c1 ([] ++ x') rfl hown1 w.heap.size B y'.length d y' rfl (hyw.below hb1) (by omega) (by omega) ?_
           intro A2 k2 c2 w3 hk2 hk2' hown2 hg2 hat2
           have hb2 : Below w.heap.size w1 w3 := hb1.grown hg2 (by omega) (fun g hg => (hown1.lt g hg).1))
        | (go_at_call 21; (with_reducible refine (sum_any _ _ _ _ _ _ hown2.reads (by unfold maxLen; omega)).mono ?_); rintro e w' ⟨rfl, rfl⟩; simp only [List.nil_append, hsum.out, Crc.run]))
      go_ret
      exact ⟨rfl, hb.trans hb2⟩
end Go.Proofs.Ytmjoikjkmdbleaa
