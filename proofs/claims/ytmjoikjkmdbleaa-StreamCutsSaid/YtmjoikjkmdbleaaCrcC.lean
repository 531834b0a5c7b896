/- What comes in, as lists of bytes and registers; and the walks of the laws CrcAll, CrcApart. -/
import Derived.Test.YtmjoikjkmdbleaaCrcB
import Derived.Deep.QuietTactic
import Derived.BigQuiet
namespace Go.Proofs.Ytmjoikjkmdbleaa
open Go.RowKit Crc

/-- What is told of a slice of integers that came in. -/
def IsRow (k : IntKind) (w : World) (a : Option Addr) (len cap : Nat) (zs : List Int) : Prop :=
  (a = none ∧ len = 0 ∧ cap = 0 ∧ zs = []) ∨
  ∃ x, a = some x ∧ len ≤ cap ∧ cap ≤ maxLen ∧ zs.length = cap ∧ (∀ i, i < zs.length → w.cell? (x.add i) = some (.int k (zs.getD i 0))) ∧ ∀ n ∈ zs, (Lit.int k n).wf = true

theorem u8_of_wf {a : Int} (h : (Lit.int .u8 a).wf = true) : ∃ c : UInt8, a = (c.toNat : Int) := by
  simp [Lit.wf] at h
  obtain ⟨h1, h2⟩ := h
  have e1 : IntKind.u8.min = 0 := by decide
  have e2 : IntKind.u8.max = 255 := by decide
  refine ⟨UInt8.ofNat a.toNat, ?_⟩
  simp only [UInt8.toNat_ofNat']
  omega
theorem u16_of_wf {a : Int} (h : (Lit.int .u16 a).wf = true) : ∃ c : BitVec 16, a = (c.toNat : Int) := by
  simp [Lit.wf] at h
  obtain ⟨h1, h2⟩ := h
  have e1 : IntKind.u16.min = 0 := by decide
  have e2 : IntKind.u16.max = 65535 := by decide
  refine ⟨BitVec.ofNat 16 a.toNat, ?_⟩
  simp only [BitVec.toNat_ofNat]
  omega

/-- A slice of bytes that came in: it reads as a list of bytes. -/
theorem IsRow.bytes {w : World} {a : Option Addr} {len cap : Nat} {zs : List Int} (h : IsRow .u8 w a len cap zs) :
    len ≤ cap ∧ cap ≤ maxLen ∧ ∃ l : List UInt8, l.length = len ∧ Reads w w.heap.size 1 a len (l.map bv) := by
  rcases h with ⟨rfl, rfl, rfl, rfl⟩ | ⟨x, rfl, h1, h2, h3, h4, h5⟩
  · exact ⟨by omega, by decide, [], rfl, Reads.none_⟩
  · refine ⟨h1, h2, (zs.take len).map fun z => UInt8.ofNat z.toNat, by simp; omega, by simp; omega, fun hn => ⟨x, rfl, ?_, ?_⟩⟩
    · have := h4 0 (by omega)
      rw [← block_of_add x 0]
      exact World.block_lt_of_cell? w _ this
    · intro j u hu
      simp only [List.map_map, List.getElem?_map, Option.map_eq_some_iff] at hu
      obtain ⟨z, hz, rfl⟩ := hu
      rw [List.getElem?_take] at hz
      split at hz
      case isFalse => cases hz
      have hj : j < zs.length := by omega
      have hzj : z = zs[j] := by rw [List.getElem?_eq_getElem hj] at hz; exact (Option.some.inj hz).symm
      obtain ⟨c, hc⟩ := u8_of_wf (h5 _ (List.getElem_mem hj))
      rw [h4 j hj]
      simp [List.getD_eq_getElem?_getD, List.getElem?_eq_getElem hj, hzj, bv, hc]

theorem Reads.bytesTake {w : World} {B n : Nat} {A : Option Addr} {l : List UInt8} (h : Reads w B 1 A n (l.map bv)) {k : Nat} (hk : k ≤ n) : Reads w B 1 A k ((l.take k).map bv) := by
  have := h.take hk
  rw [Nat.mul_one, ← List.map_take] at this
  exact this

set_option maxHeartbeats 400000 in
theorem all_walk (A : Option Addr) (n c : Nat) (l : List UInt8) (s : BitVec 16) (x : UInt8) (w : World) (hr : Reads w w.heap.size 1 A n (l.map bv)) (hn : n ≤ c) (hc : c ≤ maxLen) :
    Calls Try.prog 3 #[.slice A n c, .int .u16 s.toNat, .int .u8 x.toNat] w fun e w' => e = .returned (.bool true) ∧ Below w.heap.size w w' := by
  have hmin : min n 300 ≤ n := Nat.min_le_left _ _
  have ht := Lib.hid (hr.bytesTake hmin)
  have hm : min n 300 ≤ maxLen := by omega
  clear hr
  go_enter Try.func3, Try.ntmps3
  go_wp2_with (first
    | (go_at_call 19; (with_reducible refine (shown_any _).mono ?_); rintro e w1 ⟨rfl, hb⟩)
    | (go_at_call 20; (with_reducible refine (few_any _ _ _ _ hn hc).mono ?_); rintro e w' ⟨rfl, rfl⟩)
    | (go_at_call 21; (with_reducible refine (sum_any _ _ _ _ _ _ (ht.out.below hb) hm).mono ?_); rintro e w' ⟨rfl, rfl⟩)
    | (go_at_call 22; (with_reducible refine (rsum_any _ _ _ _ _ _ (ht.out.below hb) hm).mono ?_); rintro e w' ⟨rfl, rfl⟩)
    | (go_at_call 23; (with_reducible refine (step_any _ _ _).mono ?_); rintro e w' ⟨rfl, rfl⟩)
    | (go_at_call 24; (with_reducible refine (rstep_any _ _ _).mono ?_); rintro e w' ⟨rfl, rfl⟩))
  go_ret
  exact ⟨rfl, hb⟩

theorem nat_beq_of {a b : Nat} (h : a = b) : ((a : Int) == (b : Int)) = true := by simp [h]
theorem nat_beq_ne {a b : Nat} (h : ¬ a = b) : ((a : Int) == (b : Int)) = false := by
  rw [beq_eq_false_iff_ne]; omega

set_option maxHeartbeats 1000000 in
theorem apart_core (a b : BitVec 16) (x y : UInt8) (w : World) (p q : Bool)
    (h1 : ((((stp a x).toNat : Nat) : Int) == (((stp b x).toNat : Nat) : Int)) = p) (h2 : ((a.toNat : Int) == (b.toNat : Int)) = p)
    (h3 : ((((stp a x).toNat : Nat) : Int) == (((stp a y).toNat : Nat) : Int)) = q) (h4 : ((x.toNat : Int) == (y.toNat : Int)) = q) :
    Calls Try.prog 7 #[.int .u16 a.toNat, .int .u16 b.toNat, .agg #[.int .u8 x.toNat, .int .u8 y.toNat]] w fun e w' => e = .returned (.bool true) ∧ Below w.heap.size w w' := by
  go_enter Try.func7, Try.ntmps7
  go_wp2_with (go_at_call 19; (with_reducible refine (shown_any _).mono ?_); rintro e w1 ⟨rfl, hb⟩)
  have hx : w1.cell? ⟨w.heap.size, 0, none⟩ = some (.int .u8 x.toNat) := (hb.cell (p := ⟨w.heap.size, 0, none⟩) (by simp)).trans (by simp [go_sem])
  have hy : w1.cell? ⟨w.heap.size, 1, none⟩ = some (.int .u8 y.toNat) := (hb.cell (p := ⟨w.heap.size, 1, none⟩) (by simp)).trans (by simp [go_sem])
  have hb' := Lib.hid (((Below.refl w.heap.size w).alloc (Nat.le_refl _) _).trans (hb.mono (by simp)))
  clear hb
  go_quiet ((go_at_call 23; exact Calls.quiet_of_same ((step_any _ _ _).mono fun _ _ h => ⟨h.1, h.2.symm⟩)))
  go_wp2
  go_ret
  exact ⟨rfl, hb'.out.trans ⟨rfl, rfl, rfl, Nat.le_refl _, fun _ _ => rfl⟩⟩
theorem apart_walk (a b : BitVec 16) (x y : UInt8) (w : World) :
    Calls Try.prog 7 #[.int .u16 a.toNat, .int .u16 b.toNat, .agg #[.int .u8 x.toNat, .int .u8 y.toNat]] w fun e w' => e = .returned (.bool true) ∧ Below w.heap.size w w' := by
  refine apart_core a b x y w _ _ ?_ rfl ?_ rfl
  · by_cases h : a = b
    · subst h; simp
    · rw [nat_beq_ne (fun e => h (stp_inj (BitVec.eq_of_toNat_eq e))), nat_beq_ne (fun e => h (BitVec.eq_of_toNat_eq e))]
  · by_cases h : x = y
    · subst h; simp
    · rw [nat_beq_ne (fun e => h (stp_inj_byte (BitVec.eq_of_toNat_eq e))), nat_beq_ne (fun e => h (UInt8.toNat_inj.1 e))]
end Go.Proofs.Ytmjoikjkmdbleaa
