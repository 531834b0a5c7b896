/- The walk of the law CrcPairs. -/
import Derived.Test.YtmjoikjkmdbleaaOwn
namespace Go.Proofs.Ytmjoikjkmdbleaa
open Go.RowKit Crc

theorem swap_sum (x : List UInt8) (j : Nat) (u v : UInt8) (hu : x[j]? = some u) (hv : x[j + 1]? = some v) : Crc.sum ((x.set j v).set (j + 1) u) = Crc.sum x ↔ v = u := by
  obtain ⟨h1, rfl⟩ := List.getElem?_eq_some_iff.1 hu
  obtain ⟨h, rfl⟩ := List.getElem?_eq_some_iff.1 hv
  have e : x = x.take j ++ x[j] :: x[j + 1] :: x.drop (j + 2) := by
    rw [List.getElem_cons_drop, List.getElem_cons_drop, List.take_append_drop]
  have hl : (x.take j).length = j := by rw [List.length_take]; omega
  clear hu hv
  generalize x[j] = a at *
  generalize x[j + 1] = b at *
  generalize x.take j = p at *
  generalize x.drop (j + 2) = q at *
  subst e
  subst hl
  have e2 : ((p ++ a :: b :: q).set p.length b).set (p.length + 1) a = p ++ b :: a :: q := by
    simp [List.set_append_right]
  rw [e2, sum_swap]
  exact eq_comm
theorem swap_beq (x : List UInt8) (j : Nat) (u v : UInt8) (hu : x[j]? = some u) (hv : x[j + 1]? = some v) :
    (((Crc.sum ((x.set j v).set (j + 1) u)).toNat : Int) == ((Crc.sum x).toNat : Int)) = ((v.toNat : Int) == (u.toNat : Int)) := by
  have hs := swap_sum x j u v hu hv
  by_cases he : v = u
  · rw [hs.2 he, he]; simp
  · rw [nat_beq_ne (fun e => he (hs.1 (BitVec.eq_of_toNat_eq e))), nat_beq_ne (fun e => he (UInt8.toNat_inj.1 e))]

set_option maxHeartbeats 1000000 in
theorem pairs_walk (A : Option Addr) (n c : Nat) (l : List UInt8) (at_ : BitVec 16) (w : World) (hx : Reads w w.heap.size 1 A n (l.map bv)) (hn : n ≤ c) (hc : c ≤ maxLen) :
    Calls Try.prog 8 #[.slice A n c, .int .u16 at_.toNat] w fun e w' => e = .returned (.bool true) ∧ Below w.heap.size w w' := by
  have hx' := Lib.hid (hx.bytesTake (Nat.min_le_left n 300))
  have hn3 : min n 300 ≤ 300 := Nat.min_le_right _ _
  clear hx
  have F1 := Lib.hid (fun w => few_any A n c w hn hc)
  generalize l.take (min n 300) = x at *
  generalize min n 300 = n' at *
  clear hn hc
  have hl : x.length = n' := by simpa using hx'.out.1
  go_enter Try.func8, Try.ntmps8
  clear hl
  go_wp2_with (first
    | (go_at_call 19; (with_reducible refine (shown_any _).mono ?_); rintro e w1 ⟨rfl, hb⟩; have hs1 := hb.size; have hx2 := Lib.hid (hx'.out.below hb))
    | (go_at_call 20; (with_reducible refine (F1.out _).mono ?_); rintro e w' ⟨rfl, rfl⟩)
    | (at_builtin
       refine wpList_append_b rfl (.tmp 11) (.tmp 13) rfl w.heap.size (some ⟨w1.heap.size, 0, none⟩) 0 0 [] rfl (OwnB.made0 w1 hs1) w.heap.size A n' c x rfl (hx2.out.alloc hs1 _) (by omega) (by simp; omega) ?_
       intro A1 k1 c1 w2 hk1 hk1' hown1 hg1 hat1
       have hb1 : Below w.heap.size w1 w2 := ((Below.refl _ _).alloc hs1 _).grown hg1 (by simp; omega) (by simp [Value.ownBlock]; omega)
       have hs2 := hb1.size
       clear hg1 hat1))
  · go_ret
    exact ⟨rfl, hb.trans hb1⟩
  · have hk2 : 2 ≤ k1 := by omega
    have hown : OwnB w2 w.heap.size A1 k1 c1 x := by simpa using hown1
    clear hown1
    refine (sum_any _ _ _ _ _ _ hown.reads (by unfold maxLen; omega)).mono ?_
    rintro e w' ⟨rfl, rfl⟩
    obtain ⟨m, rfl⟩ : ∃ m, k1 = m + 1 := ⟨k1 - 1, by omega⟩
    have hjm : (at_.toNat : Int) % (m : Int) = ((at_.toNat % m : Nat) : Int) := by simp
    have hj : at_.toNat % m < m := Nat.mod_lt _ (by omega)
    have hat := at_.isLt
    generalize at_.toNat % m = j at *
    obtain ⟨g, u, rfl, hg, hgs, hu, hc1, hf1⟩ := hown.get (i := j) (by omega)
    obtain ⟨g', v, hg', _, _, hv, hc2, hf2⟩ := hown.get (i := j + 1) (by omega)
    obtain rfl : g = g' := by injection hg' with h; injection h
    clear hg'
    have HS := Lib.hid (swap_beq x j u v hu hv)
    have hown3 := (hown.set_ (i := j) (by omega) v rfl).set_ (i := j + 1) (by omega) u rfl
    have HB : Hid (Below w.heap.size w _) := ((hb.trans hb1).setCell (p := ⟨g, j, none⟩) hg (bv v)).setCell (p := ⟨g, j + 1, none⟩) hg (bv u)
    have hlen := hown.length
    have HC := Lib.hid (hown3.get' (i := j) (by omega) (u := v) (by rw [List.getElem?_set_ne (by omega), List.getElem?_set_self (by omega)]))
    have HO := Lib.hid hown3
    have HU := Lib.hid hu
    clear hown3 hu hv hown hb1 hs2 hlen
    go_wp2_with fail
    unfold bv at HO HC HB
    obtain ⟨W, hW⟩ : ∃ W, W = (w2.setCell ⟨g, j, none⟩ (.int .u8 v.toNat)).setCell ⟨g, j + 1, none⟩ (.int .u8 u.toNat) := ⟨_, rfl⟩
    rw [← hW] at HO HC HB ⊢
    clear hW hc1 hc2 hf1 hf2
    generalize hx1 : (x.set j v).set (j + 1) u = x1 at *
    clear hx1
    have hc3 := HC.out.1
    have hq := HS.out
    clear HC HS
    go_quiet ((go_at_call 21; exact Calls.quiet_of_same ((sum_any _ _ _ _ _ _ (Reads.drewN (OwnB.reads HO.out) _) (by unfold maxLen; omega)).mono fun _ _ h => ⟨h.1, h.2.symm⟩)))
    go_wp2
    go_ret
    exact ⟨by simp, HB.out.trans ⟨rfl, rfl, rfl, Nat.le_refl _, fun _ _ => rfl⟩⟩
end Go.Proofs.Ytmjoikjkmdbleaa
