/- The walk of the law CrcBursts. -/
import Derived.Test.YtmjoikjkmdbleaaOwn
namespace Go.Proofs.Ytmjoikjkmdbleaa
open Go.RowKit Crc

theorem bits_xor_u8 (a b : UInt8) : bits .xor .u8 (a.toNat : Int) (b.toNat : Int) = ((a ^^^ b).toNat : Int) := by
  have h : ∀ x : UInt8, BitVec.ofInt 8 (x.toNat : Int) = x.toBitVec := fun x => by
    rw [BitVec.ofInt_natCast]
    show BitVec.ofNat 8 x.toBitVec.toNat = _
    rw [BitVec.ofNat_toNat, BitVec.setWidth_eq]
  show IntKind.u8.wrap ((BitVec.ofInt 8 (a.toNat : Int) ^^^ BitVec.ofInt 8 (b.toNat : Int)).toNat : Int) = _
  rw [h, h]
  have := (a ^^^ b).toNat_lt
  show (((a ^^^ b).toNat : Nat) : Int) % 256 = _
  omega
/-- Which of the bits are turned, as the law asks it. -/
def bitf (more : BitVec 16) (k : Nat) : Bool := bits BinOp.and IntKind.u16 (bits BinOp.or IntKind.u16 (more.toNat : Int) 32768 / 2 ^ (15 - k)) 1 == 1
theorem bitf_zero (more : BitVec 16) : bitf more 0 = true := by
  unfold bitf
  have h := bits_or_u16 more 0x8000#16
  rw [show ((0x8000#16).toNat : Int) = 32768 from rfl] at h
  rw [h]
  have h1 : 32768 ≤ (more ||| 0x8000#16).toNat := by rw [BitVec.toNat_or]; exact Nat.right_le_or
  have h2 := (more ||| 0x8000#16).isLt
  generalize (more ||| 0x8000#16).toNat = m at *
  have h3 : (m : Int) / 2 ^ (15 - 0) = 1 := by
    rw [show (2 : Int) ^ (15 - 0) = 32768 from rfl]; omega
  rw [h3]
  decide
theorem turn_eq (l : List UInt8) (p : Nat) (u : UInt8) (hu : l[p / 8]? = some u) : turn l p = l.set (p / 8) (u ^^^ (128 >>> UInt8.ofNat (p % 8))) := by
  obtain ⟨h, rfl⟩ := List.getElem?_eq_some_iff.1 hu
  unfold turn
  apply List.ext_getElem?
  intro i
  rw [List.getElem?_modify, List.getElem?_set]
  by_cases hi : p / 8 = i
  · subst hi
    simp [h]
  · simp [hi]
theorem sh128 (r : Nat) (h : r < 8) : (128 : Int) / (2 : Int) ^ r = ((128 >>> UInt8.ofNat r).toNat : Int) := by
  have : ∀ r : Fin 8, (128 : Int) / (2 : Int) ^ r.1 = ((128 >>> UInt8.ofNat r.1).toNat : Int) := by decide +kernel
  exact this ⟨r, h⟩

theorem burst_stop (b : Nat → Bool) (l : List UInt8) (k i : Nat) (h : 8 * l.length ≤ k + i) : ∀ j, burst b l k (i + j) = burst b l k i
  | 0 => rfl
  | j + 1 => by
    have ih := burst_stop b l k i h j
    show burst b l k ((i + j) + 1) = _
    rw [burst, if_neg (by omega), ih]

set_option maxHeartbeats 1000000 in
theorem bursts_walk (A : Option Addr) (n c : Nat) (x : List UInt8) (at_ : Int) (more : BitVec 16) (w : World) (hx : Reads w w.heap.size 1 A n (x.map bv)) (hn : n ≤ c) (hc : c ≤ maxLen) :
    Calls Try.prog 5 #[.slice A n c, .int .i64 at_, .int .u16 more.toNat] w fun e w' => e = .returned (.bool true) ∧ Below w.heap.size w w' := by
  have hx' := Lib.hid (hx.bytesTake (Nat.min_le_left n 300))
  have hn3 : min n 300 ≤ 300 := Nat.min_le_right _ _
  have F1 := Lib.hid (fun w => few_any A n c w hn hc)
  clear hx hn hc
  generalize x.take (min n 300) = x' at *
  generalize min n 300 = n' at *
  have hlx := Lib.hid (show x'.length = n' by simpa using hx'.out.1)
  have hsum : ((Crc.sum (x' ++ [hi (Crc.sum x'), lo (Crc.sum x')])).toNat : Int) = 0 := by rw [sum_whole]; rfl
  have HS := Lib.hid hsum
  clear hsum
  go_enter Try.func5, Try.ntmps5
  go_wp2_with (first
    | (go_at_call 19; (with_reducible refine (shown_any _).mono ?_); rintro e w1 ⟨rfl, hb⟩; have hs1 := hb.size)
    | (go_at_call 20; (with_reducible refine (F1.out _).mono ?_); rintro e w' ⟨rfl, rfl⟩)
    | (go_at_call 25; (with_reducible refine (whole_any w.heap.size A n' c x' w1 (hx'.out.below hb) hs1 hn3).mono ?_); rintro e w2 ⟨A2, k2, c2, rfl, hown, hb2⟩
       have hk2 := Lib.hid hown.length
       have hm : k2 ≤ 302 := by have h1 := hlx.out; have h2 := hown.length; simp at h2; omega
       have hm' : 2 ≤ k2 := by have h2 := hown.length; simp at h2; omega
       have hm'' : k2 ≤ maxLen := by unfold maxLen; omega
       have ha1 : -(8 * (k2 : Int)) < at_.tmod (8 * (k2 : Int)) := Int.lt_tmod_of_pos at_ (by omega)
       have ha2 : at_.tmod (8 * (k2 : Int)) < 8 * (k2 : Int) := Int.tmod_lt_of_pos at_ (by omega)
       obtain ⟨K, hK, hKlt⟩ : ∃ K : Nat, (at_.tmod (8 * (k2 : Int)) + 8 * (k2 : Int)) % (8 * (k2 : Int)) = (K : Int) ∧ K < 8 * k2 :=
         ⟨((at_.tmod (8 * (k2 : Int)) + 8 * (k2 : Int)) % (8 * (k2 : Int))).toNat, (Int.toNat_of_nonneg (Int.emod_nonneg _ (by omega))).symm, by
           have := Int.emod_lt_of_pos (at_.tmod (8 * (k2 : Int)) + 8 * (k2 : Int)) (show (0 : Int) < 8 * (k2 : Int) by omega)
           have := Int.emod_nonneg (at_.tmod (8 * (k2 : Int)) + 8 * (k2 : Int)) (show (8 * (k2 : Int)) ≠ 0 by omega)
           omega⟩)
    | (go_at_call 21; (with_reducible refine (sum_any _ _ _ _ _ _ hown.reads hm'').mono ?_); rintro e w' ⟨rfl, rfl⟩; simp only [HS.out]))
  have hB2 : Below w.heap.size w w2 := hb.trans (hb2.mono hs1)
  have ho2 : OwnB w2 w.heap.size A2 k2 c2 (x' ++ [hi (sum x'), lo (sum x')]) := ⟨hown.1, hown.2.imp id (fun ⟨g, cap, cur, h1, h2, h3⟩ => ⟨g, cap, cur, h1, Nat.le_trans hs1 h2, h3⟩)⟩
  have hz : Crc.sum (x' ++ [hi (sum x'), lo (sum x')]) = 0#16 := sum_whole x'
  have hl2 : (x' ++ [hi (sum x'), lo (sum x')]).length = k2 := hk2.out
  generalize x' ++ [hi (sum x'), lo (sum x')] = l at *
  have HF := Lib.hid (burst_found (bitf more) (bitf_zero more) l K (by omega) hz)
  have HL := Lib.hid hl2
  clear HS hb hb2 hs1 hown hk2 hz hl2 hlx hx' F1
  clear ha1 ha2
  rw [hK]
  clear hK
  go_loopw [12] (fun i wr => ∃ k : Nat, k ≤ 16 ∧ i = .int .i64 k ∧ OwnB wr w.heap.size A2 k2 c2 (burst (bitf more) l K k) ∧ Below w.heap.size w wr) (fun i _ => 16 - (intOf i).toNat)
  case atStart => exact ⟨0, by omega, rfl, ho2, hB2⟩
  case round =>
    obtain ⟨k, hk, rfl, ho, hbr⟩ := hrel
    by_cases hlt : k < 16
    · by_cases hlt2 : K + k < 8 * k2
      · have hbit : (bits BinOp.and IntKind.u16 (bits BinOp.or IntKind.u16 (more.toNat : Int) 32768 / 2 ^ (15 - k)) 1 == 1) = bitf more k := rfl
        cases hbf : bitf more k with
        | false =>
          rw [hbf] at hbit
          have H1 := Lib.hid hbf
          clear hbf
          go_wp2_with fail
          go_roundw
          case rel => exact ⟨k + 1, by omega, by go_num, by unfold burst; rw [if_neg (by rw [H1.out]; simp)]; exact ho, hbr⟩
          case measure => simp [intOf]; omega
        | true =>
          rw [hbf] at hbit
          have H1 := Lib.hid hbf
          clear hbf
          obtain ⟨g, u, rfl, hg, hg', hu, hcell, hfz⟩ := ho.get (i := (K + k) / 8) (by omega)
          have HU := Lib.hid hu
          clear hu
          go_wp2_with fail
          go_region
          go_wp2_with fail
          go_roundw
          case rel =>
            refine ⟨k + 1, by omega, by go_num, ?_, ?_⟩
            · rw [sh128 _ (by omega), bits_xor_u8, burst, if_pos ⟨by rw [HL.out]; exact hlt2, H1.out⟩, turn_eq _ _ u HU.out]
              exact OwnB.drew (ho.set_ (by omega) _ rfl)
            · exact (hbr.setCell (p := ⟨g, (K + k) / 8, none⟩) hg _).drew
          case measure => simp [intOf]; omega
      · have HF' : Crc.sum (burst (bitf more) l K k) ≠ 0#16 := by
          have h1 := HF.out
          have h2 := burst_stop (bitf more) l K k (by rw [HL.out]; omega) (16 - k)
          rw [show k + (16 - k) = 16 by omega] at h2
          rw [← h2]; exact h1
        have hne : (((Crc.sum (burst (bitf more) l K k)).toNat : Int) != 0) = true := by
          rw [bne_iff_ne]
          intro e
          exact HF' (BitVec.eq_of_toNat_eq (by rw [BitVec.toNat_ofNat]; omega))
        clear HF'
        go_wp2_with (go_at_call 21; (with_reducible refine (sum_any _ _ _ _ _ _ ho.reads hm'').mono ?_); rintro e w' ⟨rfl, rfl⟩)
        go_ret
        exact ⟨rfl, hbr⟩
    · obtain rfl : k = 16 := by omega
      have hne : (((Crc.sum (burst (bitf more) l K 16)).toNat : Int) != 0) = true := by
        rw [bne_iff_ne]
        intro e
        exact HF.out (BitVec.eq_of_toNat_eq (by rw [BitVec.toNat_ofNat]; omega))
      go_wp2_with (go_at_call 21; (with_reducible refine (sum_any _ _ _ _ _ _ ho.reads hm'').mono ?_); rintro e w' ⟨rfl, rfl⟩)
      go_ret
      exact ⟨rfl, hbr⟩
end Go.Proofs.Ytmjoikjkmdbleaa
