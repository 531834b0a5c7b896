/- The sum's walks: crc.Step and crc.Sum, and the reference's, come to the plain law's 'stp' and 'sum'. -/
import Derived.Test.YtmjoikjkmdbleaaProg
import Derived.Test.YtmjoikjkmdbleaaCrcA
import Derived.Test.YtmjoikjkmdbleaaMem
import Derived.Lib.SlBytesConst
namespace Go.Proofs.Ytmjoikjkmdbleaa
open Go.RowKit Crc

/-- A byte as a value. -/
def bv (c : UInt8) : Value := .int .u8 (c.toNat : Int)

theorem ofInt16 (a : BitVec 16) : BitVec.ofInt 16 (a.toNat : Int) = a := by
  rw [BitVec.ofInt_natCast, BitVec.ofNat_toNat, BitVec.setWidth_eq]
theorem wrap_u16 (a : BitVec 16) : IntKind.u16.wrap (a.toNat : Int) = a.toNat := by
  have := a.isLt
  show (a.toNat : Int) % 65536 = _
  omega
theorem bits_xor_u16 (a b : BitVec 16) : bits .xor .u16 (a.toNat : Int) (b.toNat : Int) = ((a ^^^ b).toNat : Int) := by
  show IntKind.u16.wrap ((BitVec.ofInt 16 (a.toNat : Int) ^^^ BitVec.ofInt 16 (b.toNat : Int)).toNat : Int) = _
  rw [ofInt16, ofInt16, wrap_u16]
theorem bits_and_u16 (a b : BitVec 16) : bits .and .u16 (a.toNat : Int) (b.toNat : Int) = ((a &&& b).toNat : Int) := by
  show IntKind.u16.wrap ((BitVec.ofInt 16 (a.toNat : Int) &&& BitVec.ofInt 16 (b.toNat : Int)).toNat : Int) = _
  rw [ofInt16, ofInt16, wrap_u16]
theorem bits_or_u16 (a b : BitVec 16) : bits .or .u16 (a.toNat : Int) (b.toNat : Int) = ((a ||| b).toNat : Int) := by
  show IntKind.u16.wrap ((BitVec.ofInt 16 (a.toNat : Int) ||| BitVec.ofInt 16 (b.toNat : Int)).toNat : Int) = _
  rw [ofInt16, ofInt16, wrap_u16]
theorem shl1_u16 (a : BitVec 16) : IntKind.u16.wrap ((a.toNat : Int) * 2) = ((a <<< 1).toNat : Int) := by
  show ((a.toNat : Int) * 2) % 65536 = _
  rw [BitVec.toNat_shiftLeft, Nat.shiftLeft_eq]
  omega
theorem up_u16 (c : UInt8) : IntKind.u16.wrap (IntKind.u16.wrap (c.toNat : Int) * 256) = ((up c).toNat : Int) := by
  show ((c.toNat : Int) % 65536 * 256) % 65536 = _
  have h := c.toBitVec.isLt
  have : (up c).toNat = c.toNat * 256 := by
    unfold up
    rw [BitVec.toNat_shiftLeft, Nat.shiftLeft_eq, BitVec.toNat_setWidth]
    have : c.toBitVec.toNat = c.toNat := rfl
    omega
  rw [this]
  have : c.toNat < 256 := h
  omega
theorem msb_u16 (a : BitVec 16) : (bits BinOp.and IntKind.u16 (a.toNat : Int) 32768 != 0) = a.msb := by
  have h := bits_and_u16 a 0x8000#16
  rw [show ((0x8000#16).toNat : Int) = 32768 from rfl] at h
  rw [h]
  have h2 : (a &&& 0x8000#16) = if a.msb then 0x8000#16 else 0#16 := by
    apply BitVec.eq_of_getLsbD_eq
    intro i hi
    have : ∀ i : Fin 16, (0x8000#16).getLsbD i.1 = (i.1 == 15) := by decide
    rw [BitVec.getLsbD_and, this ⟨i, hi⟩]
    by_cases h15 : i = 15
    · subst h15
      rw [BitVec.msb_eq_getLsbD_last]
      cases a.getLsbD 15 <;> simp
    · cases a.msb <;> simp [h15, this ⟨i, hi⟩]
  rw [h2]
  cases a.msb <;> simp

theorem sh_u16_t (a : BitVec 16) (h : (bits BinOp.and IntKind.u16 (a.toNat : Int) 32768 != 0) = true) :
    bits BinOp.xor IntKind.u16 (IntKind.u16.wrap ((a.toNat : Int) * 2)) 4129 = ((sh a).toNat : Int) := by
  rw [msb_u16] at h
  have h1 := bits_xor_u16 (a <<< 1) 0x1021#16
  rw [show ((0x1021#16).toNat : Int) = 4129 from rfl] at h1
  rw [shl1_u16, h1, sh, if_pos h]
theorem sh_u16_f (a : BitVec 16) (h : (bits BinOp.and IntKind.u16 (a.toNat : Int) 32768 != 0) = false) :
    IntKind.u16.wrap ((a.toNat : Int) * 2) = ((sh a).toNat : Int) := by
  rw [msb_u16] at h
  rw [shl1_u16, sh, if_neg (by rw [h]; decide)]

set_option maxHeartbeats 400000 in
theorem step_any (s : BitVec 16) (c : UInt8) (w : World) :
    Calls Try.prog 23 #[.int .u16 s.toNat, .int .u8 c.toNat] w fun e w' => e = .returned (.int .u16 (stp s c).toNat) ∧ w = w' := by
  go_enter Try.func23, Try.ntmps23
  go_wp2
  go_loop [0, 10] (fun s' i => ∃ k : Nat, k ≤ 8 ∧ i = .int .i64 k ∧ s' = .int .u16 (shN k (s ^^^ up c)).toNat) (fun _ i => 8 - (intOf i).toNat)
  case atStart =>
    refine ⟨0, by omega, rfl, ?_⟩
    rw [up_u16, bits_xor_u16]
    rfl
  case round =>
    obtain ⟨k, hk, rfl, rfl⟩ := hrel
    by_cases hlt : k < 8
    · go_wp2
      · go_round
        case rel =>
          refine ⟨k + 1, by omega, by go_num, ?_⟩
          rw [sh_u16_t _ (by assumption), shN_succ']
        case measure => simp [intOf]; omega
      · go_round
        case rel =>
          refine ⟨k + 1, by omega, by go_num, ?_⟩
          rw [sh_u16_f _ (by assumption), shN_succ']
        case measure => simp [intOf]; omega
    · obtain rfl : k = 8 := by omega
      go_wp2
      go_ret
      exact ⟨rfl, rfl⟩

theorem sum_take (l : List UInt8) (k : Nat) (h : k < l.length) : Crc.sum (l.take (k + 1)) = stp (Crc.sum (l.take k)) l[k] := by
  rw [List.take_succ_eq_append_getElem h]; exact run_snoc _ _ _

set_option maxHeartbeats 400000 in
theorem sum_any (B : Nat) (A : Option Addr) (n c : Nat) (l : List UInt8) (w : World) (hr : Reads w B 1 A n (l.map bv)) (hn : n ≤ maxLen) :
    Calls Try.prog 21 #[.slice A n c] w fun e w' => e = .returned (.int .u16 (Crc.sum l).toNat) ∧ w = w' := by
  have hl : l.length = n := by simpa using hr.1
  unfold maxLen at hn
  subst hl
  go_enter Try.func21, Try.ntmps21
  go_wp2
  go_loop [3, 5, 8] (fun s' _ i => ∃ k : Nat, k ≤ l.length ∧ i = .int .i64 k ∧ s' = .int .u16 (Crc.sum (l.take k)).toNat) (fun _ _ i => l.length - (intOf i).toNat)
  case atStart =>
    exact ⟨0, by omega, rfl, rfl⟩
  case round =>
    obtain ⟨k, hk, rfl, rfl⟩ := hrel
    by_cases hlt : k < l.length
    · obtain ⟨ad, u, rfl, _, hx, hc⟩ := hr.at_ hlt
      obtain rfl : u = .int .u8 (l[k].toNat : Int) := by simp [hlt, bv] at hx; exact hx.symm
      have hs := Lib.hid (sum_take l k hlt)
      clear hx
      go_wp2_with (go_at_call 23; refine (step_any _ _ _).mono ?_; rintro e w' ⟨rfl, rfl⟩)
      go_round
      case rel => exact ⟨k + 1, by omega, by go_num, by rw [hs.out]⟩
      case measure => simp [intOf]; omega
    · obtain rfl : k = l.length := by omega
      go_wp2
      go_ret
      exact ⟨rfl, rfl⟩

/-! The reference's. -/
/-- A sum as the reference has it: doubled, and brought back below 65536. -/
theorem ref_sh (a : BitVec 16) : ((sh a).toNat : Int) = if (65536 : Int) ≤ (a.toNat : Int) * 2 then bits BinOp.xor IntKind.i64 ((a.toNat : Int) * 2 - 65536) 4129 else (a.toNat : Int) * 2 := by
  have ha := a.isLt
  have hm : a.msb = decide (65536 ≤ a.toNat * 2) := by
    rw [BitVec.msb_eq_decide]
    apply decide_eq_decide.2
    omega
  by_cases h : 65536 ≤ a.toNat * 2
  · rw [if_pos (by omega)]
    rw [sh, if_pos (by rw [hm]; simpa using h)]
    have e : (a.toNat : Int) * (2 : Int) - (65536 : Int) = ((a <<< 1).toNat : Int) := by
      rw [BitVec.toNat_shiftLeft, Nat.shiftLeft_eq]; omega
    rw [e]
    show _ = IntKind.i64.wrap ((BitVec.ofInt 64 ((a <<< 1).toNat : Int) ^^^ BitVec.ofInt 64 4129).toNat : Int)
    have hx : (BitVec.ofInt 64 ((a <<< 1).toNat : Int) ^^^ BitVec.ofInt 64 4129).toNat = (a <<< 1 ^^^ 0x1021#16).toNat := by
      rw [BitVec.toNat_xor, BitVec.toNat_xor, BitVec.ofInt_natCast, BitVec.toNat_ofNat]
      rw [Nat.mod_eq_of_lt (by have := (a <<< 1).isLt; omega)]
      rfl
    rw [hx]
    have := (a <<< 1 ^^^ 0x1021#16).isLt
    rw [IntKind.wrap_i64]
    omega
  · rw [if_neg (by omega), sh, if_neg (by rw [hm]; simpa using h), BitVec.toNat_shiftLeft, Nat.shiftLeft_eq]
    omega
theorem up_toNat (c : UInt8) : (up c).toNat = c.toNat * 256 := by
  have h := c.toNat_lt
  unfold up
  rw [BitVec.toNat_shiftLeft, Nat.shiftLeft_eq, BitVec.toNat_setWidth]
  have : c.toBitVec.toNat = c.toNat := rfl
  omega
theorem bits_xor_i64 (a b : Nat) (ha : a < 65536) (hb : b < 65536) : bits .xor .i64 (a : Int) (b : Int) = ((a ^^^ b : Nat) : Int) := by
  have hx : a ^^^ b < 2 ^ 16 := Nat.xor_lt_two_pow (by omega) (by omega)
  show IntKind.i64.wrap ((BitVec.ofInt 64 (a : Int) ^^^ BitVec.ofInt 64 (b : Int)).toNat : Int) = _
  rw [BitVec.toNat_xor, BitVec.ofInt_natCast, BitVec.ofInt_natCast, BitVec.toNat_ofNat, BitVec.toNat_ofNat, Nat.mod_eq_of_lt (by omega), Nat.mod_eq_of_lt (by omega), IntKind.wrap_i64]
  omega
theorem ref_start (s : BitVec 16) (c : UInt8) : bits .xor .i64 (s.toNat : Int) ((c.toNat : Int) * 256) = ((s ^^^ up c).toNat : Int) := by
  have h := c.toNat_lt
  have hs := s.isLt
  have e : (c.toNat : Int) * 256 = ((c.toNat * 256 : Nat) : Int) := by omega
  rw [e, bits_xor_i64 _ _ (by omega) (by omega), BitVec.toNat_xor, up_toNat]

set_option maxHeartbeats 400000 in
theorem rstep_any (s : BitVec 16) (c : UInt8) (w : World) :
    Calls Try.prog 24 #[.int .u16 s.toNat, .int .u8 c.toNat] w fun e w' => e = .returned (.int .u16 (stp s c).toNat) ∧ w = w' := by
  have hs := s.isLt
  have hc := c.toNat_lt
  go_enter Try.func24, Try.ntmps24
  go_wp2
  go_loop [5, 6] (fun s' i => ∃ k : Nat, k ≤ 8 ∧ i = .int .i64 k ∧ s' = .int .i64 (shN k (s ^^^ up c)).toNat) (fun _ i => 8 - (intOf i).toNat)
  case atStart =>
    refine ⟨0, by omega, rfl, ?_⟩
    rw [ref_start]
    rfl
  case round =>
    obtain ⟨k, hk, rfl, rfl⟩ := hrel
    have hr := Lib.hid (ref_sh (shN k (s ^^^ up c)))
    have hb := (shN k (s ^^^ up c)).isLt
    generalize hx : shN k (s ^^^ up c) = x at *
    have HX := Lib.hid hx
    clear hx
    by_cases hlt : k < 8
    · by_cases hbig : (65536 : Int) ≤ (x.toNat : Int) * 2
      · go_wp2
        go_round
        case rel =>
          refine ⟨k + 1, by omega, by go_num, ?_⟩
          have h := hr.out
          rw [if_pos hbig] at h
          rw [shN_succ', HX.out, h]
        case measure => simp [intOf]; omega
      · go_wp2
        go_round
        case rel =>
          refine ⟨k + 1, by omega, by go_num, ?_⟩
          have h := hr.out
          rw [if_neg hbig] at h
          rw [shN_succ', HX.out, h]
        case measure => simp [intOf]; omega
    · obtain rfl : k = 8 := by omega
      go_wp2
      go_ret
      refine ⟨?_, rfl⟩
      show Ending.returned (.int .u16 (x.toNat : Int)) = _
      rw [← HX.out]
      rfl
set_option maxHeartbeats 400000 in
theorem rsum_any (B : Nat) (A : Option Addr) (n c : Nat) (l : List UInt8) (w : World) (hr : Reads w B 1 A n (l.map bv)) (hn : n ≤ maxLen) :
    Calls Try.prog 22 #[.slice A n c] w fun e w' => e = .returned (.int .u16 (Crc.sum l).toNat) ∧ w = w' := by
  have hl : l.length = n := by simpa using hr.1
  unfold maxLen at hn
  subst hl
  go_enter Try.func22, Try.ntmps22
  go_wp2
  go_loop [3, 4] (fun s' i => ∃ k : Nat, k ≤ l.length ∧ i = .int .i64 k ∧ s' = .int .u16 (Crc.sum (l.take k)).toNat) (fun _ i => l.length - (intOf i).toNat)
  case atStart =>
    exact ⟨0, by omega, rfl, rfl⟩
  case round =>
    obtain ⟨k, hk, rfl, rfl⟩ := hrel
    by_cases hlt : k < l.length
    · obtain ⟨ad, u, rfl, _, hx, hc⟩ := hr.at_ hlt
      obtain rfl : u = .int .u8 (l[k].toNat : Int) := by simp [hlt, bv] at hx; exact hx.symm
      have hs := Lib.hid (sum_take l k hlt)
      clear hx
      go_wp2_with (go_at_call 24; refine (rstep_any _ _ _).mono ?_; rintro e w' ⟨rfl, rfl⟩)
      go_round
      case rel => exact ⟨k + 1, by omega, by go_num, by rw [hs.out]⟩
      case measure => simp [intOf]; omega
    · obtain rfl : k = l.length := by omega
      go_wp2
      go_ret
      exact ⟨rfl, rfl⟩

/-! few, shown, whole. -/
set_option maxHeartbeats 400000 in
theorem few_any (A : Option Addr) (n c : Nat) (w : World) (hn : n ≤ c) (hc : c ≤ maxLen) :
    Calls Try.prog 20 #[.slice A n c] w fun e w' => e = .returned (.slice A (min n 300) c) ∧ w = w' := by
  unfold maxLen at hc
  by_cases h : n ≤ 300
  · rw [Nat.min_eq_left h]
    go_enter Try.func20, Try.ntmps20
    go_wp2
    go_ret
    exact ⟨rfl, rfl⟩
  · rw [Nat.min_eq_right (by omega)]
    go_enter Try.func20, Try.ntmps20
    go_wp2
    go_ret
    exact ⟨rfl, rfl⟩
theorem sum_nil_any (A : Option Addr) (c : Nat) (w : World) :
    Calls Try.prog 21 #[.slice A 0 c] w fun e w' => e = .returned (.int .u16 65535) ∧ w = w' := by
  refine (sum_any 0 A 0 c [] w ⟨by simp, fun h => absurd h (by omega)⟩ (by decide)).mono ?_
  rintro e w' ⟨rfl, rfl⟩
  exact ⟨rfl, rfl⟩
def digits : List UInt8 := [49, 50, 51, 52, 53, 54, 55, 56, 57]
theorem sum_digits : (Crc.sum digits).toNat = 10673 := by decide +kernel
theorem sum_digits_any (B : Nat) (A : Option Addr) (c : Nat) (w : World) (hr : Reads w B 1 A 9 (digits.map bv)) :
    Calls Try.prog 21 #[.slice A 9 c] w fun e w' => e = .returned (.int .u16 10673) ∧ w = w' := by
  refine (sum_any B A 9 c digits w hr (by decide)).mono ?_
  rintro e w' ⟨rfl, rfl⟩
  rw [sum_digits]
  exact ⟨rfl, rfl⟩
theorem reads_new (w : World) (C : Array Value) (e : TypeId) (m : Nat × Nat) : Reads (w.alloc (.cells C e m)) (w.heap.size + 1) 1 (some ⟨w.heap.size, 0, none⟩) C.size C.toList := by
  refine ⟨by simp, fun _ => ⟨_, rfl, by simp, fun j u hu => ?_⟩⟩
  have : (w.alloc (.cells C e m)).heap[w.heap.size]? = some (.cells C e m) := heap_alloc_new w _
  have hj : (Addr.add ⟨w.heap.size, 0, none⟩ j) = ⟨w.heap.size, j, none⟩ := by unfold Addr.add; split <;> simp_all
  rw [hj]
  simp only [World.cell?, this]
  simpa using hu
set_option maxHeartbeats 400000 in
theorem shown_any (w : World) :
    Calls Try.prog 19 #[] w fun e w' => e = .returned (.bool true) ∧ Below w.heap.size w w' := by
  have kc := fun (w : World) (C : Array Value) (n c : Nat) => Lib.run_convert_bytes_const (P := Try.prog) w 22 5 C n c Try.underlying22 Try.underlying5
  go_enter Try.func19, Try.ntmps19
  go_wp2_with (first
    | (go_at_call 21; (with_reducible refine (sum_nil_any none 0 _).mono ?_); rintro e w' ⟨rfl, rfl⟩)
    | (go_at_call 21; (with_reducible refine (sum_digits_any _ _ _ _ (reads_new w _ _ _)).mono ?_); rintro e w' ⟨rfl, rfl⟩))
  go_ret
  exact ⟨rfl, (Below.refl _ _).alloc (Nat.le_refl _) _⟩
end Go.Proofs.Ytmjoikjkmdbleaa
