/- The walk of the law CrcLinear. -/
import Derived.Test.YtmjoikjkmdbleaaOwn
import Derived.StillTailTactics
namespace Go.Proofs.Ytmjoikjkmdbleaa
open Go.RowKit Crc

theorem bits_xor_u8 (a b : UInt8) : bits .xor .u8 (a.toNat : Int) (b.toNat : Int) = ((a ^^^ b).toNat : Int) := by
  have h : ∀ x : UInt8, BitVec.ofInt 8 (x.toNat : Int) = x.toBitVec := fun x => by
    rw [BitVec.ofInt_natCast]
    show BitVec.ofNat 8 x.toBitVec.toNat = _
    rw [BitVec.ofNat_toNat, BitVec.setWidth_eq]
  show IntKind.u8.wrap ((BitVec.ofInt 8 (a.toNat : Int) ^^^ BitVec.ofInt 8 (b.toNat : Int)).toNat : Int) = _
  rw [h, h]
  have := (a ^^^ b).toNat_lt
  show (((a ^^^ b).toNat : Nat) : Int) % 256 = _
  omega

/-- What three rows are together, bit by bit. -/
def three (x y z : List UInt8) : List UInt8 := List.zipWith (· ^^^ ·) (List.zipWith (· ^^^ ·) x y) z
theorem three_length (x y z : List UInt8) (hy : y.length = x.length) (hz : z.length = x.length) : (three x y z).length = x.length := by simp [three, hy, hz]
theorem three_get (x y z : List UInt8) (i : Nat) (a b c : UInt8) (ha : x[i]? = some a) (hb : y[i]? = some b) (hc : z[i]? = some c) : (three x y z)[i]? = some (a ^^^ b ^^^ c) := by
  simp [three, List.getElem?_zipWith, ha, hb, hc]
/-- The row behind i rounds. -/
def sofar (t : List UInt8) (i : Nat) : List UInt8 := t.take i ++ List.replicate (t.length - i) 0
theorem sofar_zero (t : List UInt8) : sofar t 0 = List.replicate t.length 0 := by simp [sofar]
theorem sofar_end (t : List UInt8) : sofar t t.length = t := by simp [sofar]
theorem sofar_set (t : List UInt8) (i : Nat) (u : UInt8) (h : t[i]? = some u) : (sofar t i).set i u = sofar t (i + 1) := by
  obtain ⟨hi, rfl⟩ := List.getElem?_eq_some_iff.1 h
  unfold sofar
  rw [List.set_append_right _ _ (by simp; omega), List.take_succ_eq_append_getElem hi, List.append_assoc]
  congr 1
  rw [List.length_take, Nat.min_eq_left (by omega), Nat.sub_self, show t.length - i = (t.length - (i + 1)) + 1 by omega, List.replicate_succ]
  simp

set_option maxHeartbeats 1000000 in
theorem linear_walk (A B C : Option Addr) (n m r c d e : Nat) (x y z : List UInt8) (w : World) (hx : Reads w w.heap.size 1 A n (x.map bv)) (hy : Reads w w.heap.size 1 B m (y.map bv)) (hz : Reads w w.heap.size 1 C r (z.map bv))
    (hn : n ≤ c) (hc : c ≤ maxLen) :
    Calls Try.prog 6 #[.slice A n c, .slice B m d, .slice C r e] w fun e w' => e = .returned (.bool true) ∧ Below w.heap.size w w' := by
  have hx' := Lib.hid (hx.bytesTake (Nat.min_le_left n 300))
  have hn3 : min n 300 ≤ 300 := Nat.min_le_right _ _
  have F1 := Lib.hid (fun w => few_any A n c w hn hc)
  clear hx hn hc
  generalize x.take (min n 300) = x' at *
  generalize min n 300 = n' at *
  have HY := Lib.hid hy
  have HZ := Lib.hid hz
  clear hy hz
  go_enter Try.func6, Try.ntmps6
  go_wp2_with (first
    | (go_at_call 19; (with_reducible refine (shown_any _).mono ?_); rintro e w1 ⟨rfl, hb⟩; have hs1 := hb.size)
    | (go_at_call 20; (with_reducible refine (F1.out _).mono ?_); rintro e w' ⟨rfl, rfl⟩)
    | (at_make
       refine wpList_make_b rfl (.tmp 17) (.tmp 17) rfl w.heap.size _ _ n' rfl rfl (by omega) hs1 ?_
       intro w2 oy hg2
       have hb2 : Below w.heap.size w w2 := hb.grown hg2 hs1 (fun k hk => by cases hk)
       have hs2 := hb2.size
       have ly := oy.ltg
       clear hg2)
    | (at_make
       refine wpList_make_b rfl (.tmp 20) (.tmp 20) rfl w.heap.size _ _ n' rfl rfl (by omega) hs2 ?_
       intro w3 oz hg3
       have hb3 : Below w.heap.size w w3 := hb2.grown hg3 hs2 (fun k hk => by cases hk)
       have hs3 := hb3.size
       have oy3 := oy.grown hg3 (fun g _ h => by cases h)
       have lz := oz.ltg
       clear oy hg3)
    | (with_reducible refine wpList_copy_b rfl (.tmp 22) (.tmp 23) rfl w.heap.size (some ⟨w1.heap.size, 0, none⟩) n' n' _ rfl oy3 w.heap.size B m d y rfl (HY.out.below hb3) ?_
       intro k4 w4 oy4 hg4
       have hb4 : Below w.heap.size w w4 := hb3.grown hg4 hs3 (fun g hg => by cases hg; exact hs1)
       have oz4 := oz.grown hg4 (fun g h1 h2 => by injection h1 with h1; injection h1 with h1; injection h2 with h2; simp at h2; omega)
       have hs4 := hb4.size
       clear hg4 oy3 oz)
    | (with_reducible refine wpList_copy_b rfl (.tmp 25) (.tmp 26) rfl w.heap.size (some ⟨w2.heap.size, 0, none⟩) n' n' _ rfl oz4 w.heap.size C r e z rfl (HZ.out.below hb4) ?_
       intro k5 w5 oz5 hg5
       have hb5 : Below w.heap.size w w5 := hb4.grown hg5 hs4 (fun g hg => by cases hg; exact hs2)
       have oy5 := oy4.grown hg5 (fun g h1 h2 => by injection h1 with h1; injection h1 with h1; injection h2 with h2; simp at h2; omega)
       have hs5 := hb5.size
       clear hg5 oy4 oz4)
    | (at_make
       refine wpList_make_b rfl (.tmp 29) (.tmp 29) rfl w.heap.size _ _ n' rfl rfl (by omega) hs5 ?_
       intro w6 ot hg6
       have hb56 : Below w5.heap.size w5 w6 := (Below.refl _ _).grown hg6 (Nat.le_refl _) (fun k hk => by cases hk)
       clear hg6))
  have hlx : x'.length = n' := by simpa using hx'.out.1
  have hly := oy5.length
  have hlz := oz5.length
  generalize List.take (List.replicate n' (0 : UInt8)).length y ++ List.drop y.length (List.replicate n' (0 : UInt8)) = y' at *
  generalize List.take (List.replicate n' (0 : UInt8)).length z ++ List.drop z.length (List.replicate n' (0 : UInt8)) = z' at *
  have htl : (three x' y' z').length = n' := by rw [three_length _ _ _ (by omega) (by omega), hlx]
  have hx5 : Reads w5 w.heap.size 1 A n' (x'.map bv) := hx'.out.below hb5
  have OT : Hid (OwnB w6 w.heap.size (some ⟨w5.heap.size, 0, none⟩) n' n' (sofar (three x' y' z') 0)) := by rw [sofar_zero, htl]; exact ot
  have E1 := Lib.hid hlx
  have E2 := Lib.hid hly
  have E3 := Lib.hid hlz
  have E4 := Lib.hid htl
  clear hlx hly hlz htl ot F1 HY HZ
  go_loopw [12] (fun i wr => ∃ k : Nat, k ≤ n' ∧ i = .int .i64 k ∧ OwnB wr w.heap.size (some ⟨w5.heap.size, 0, none⟩) n' n' (sofar (three x' y' z') k) ∧ Below w5.heap.size w5 wr) (fun i _ => n' - (intOf i).toNat)
  case atStart => exact ⟨0, by omega, rfl, OT.out, hb56⟩
  case round =>
    obtain ⟨k, hk, rfl, hown, hwr⟩ := hrel
    by_cases hlt : k < n'
    · obtain ⟨ad, u, rfl, hadb, hxk, hcx⟩ := hx5.at_ hlt
      obtain ⟨u, hu, rfl⟩ : ∃ c, x'[k]? = some c ∧ u = .int .u8 (c.toNat : Int) := by
        rw [List.getElem?_map, Option.map_eq_some_iff] at hxk
        obtain ⟨c, h1, h2⟩ := hxk
        exact ⟨c, h1, h2.symm⟩
      obtain ⟨gy, v, ey, _, _, hv, hcy, _⟩ := oy5.get hlt
      obtain ⟨gz, t, ez, _, _, ht, hcz, _⟩ := oz5.get hlt
      injection ey with ey; injection ey with ey; subst ey
      injection ez with ez; injection ez with ez; subst ez
      obtain ⟨gt, q, et, _, _, _, hct, hft⟩ := hown.get hlt
      injection et with et; injection et with et; subst et
      have hcx' := (hwr.cell (p := ad.add k) (by rw [block_of_add]; omega)).trans hcx
      have hcy' := (hwr.cell (p := ⟨w1.heap.size, k, none⟩) (by simp; omega)).trans hcy
      have hcz' := (hwr.cell (p := ⟨w2.heap.size, k, none⟩) (by simp; omega)).trans hcz
      have T1 := Lib.hid (three_get _ _ _ k u v t hu hv ht)
      clear hcx hcy hcz hxk hu hv ht
      go_wp2_with fail
      go_region
      go_wp2
      go_roundw
      case rel =>
        refine ⟨k + 1, by omega, by go_num, ?_, ?_⟩
        · rw [bits_xor_u8, bits_xor_u8, ← sofar_set _ _ _ T1.out]
          exact OwnB.drew (hown.set_ hlt (u ^^^ v ^^^ t) rfl)
        · exact (hwr.setCell (p := ⟨w5.heap.size, k, none⟩) (Nat.le_refl _) _).drew
      case measure => simp [intOf]; omega
    · obtain rfl : k = n' := by omega
      have ho : OwnB wr w.heap.size (some ⟨w5.heap.size, 0, none⟩) k k (three x' y' z') := by
        have h := E4.out
        have := sofar_end (three x' y' z')
        rw [h] at this
        rw [this] at hown
        exact hown
      have hwr' : Below w.heap.size w wr := hb5.trans (hwr.mono hs5)
      have R1 := Lib.hid (hx5.below (hwr.mono hs5))
      have R2 := Lib.hid (oy5.reads.below hwr)
      have R3 := Lib.hid (oz5.reads.below hwr)
      have R4 := Lib.hid ho.reads
      have S := Lib.hid (sum_three x' y' z' (by rw [E1.out, E2.out]) (by rw [E1.out, E3.out]))
      clear hown ho hwr hx5 oy5 oz5 hb56
      have hm : k ≤ maxLen := by unfold maxLen; omega
      go_wp2_with (first
        | (go_at_call 21; (with_reducible refine (sum_any _ _ _ _ _ _ R1.out hm).mono ?_); rintro e w' ⟨rfl, rfl⟩)
        | (go_at_call 21; (with_reducible refine (sum_any _ _ _ _ _ _ R2.out hm).mono ?_); rintro e w' ⟨rfl, rfl⟩)
        | (go_at_call 21; (with_reducible refine (sum_any _ _ _ _ _ _ R3.out hm).mono ?_); rintro e w' ⟨rfl, rfl⟩)
        | (go_at_call 21; (with_reducible refine (sum_any _ _ _ _ _ _ R4.out hm).mono ?_); rintro e w' ⟨rfl, rfl⟩; simp only [three, S.out, ← bits_xor_u16]))
      go_ret
      exact ⟨rfl, hwr'⟩
end Go.Proofs.Ytmjoikjkmdbleaa
