/- The plain law of the sum: shifts of a 16-bit register, linear and one to one; the sum of bytes; what a turned bit does. No program in sight. -/
namespace Go.Proofs.Ytmjoikjkmdbleaa.Crc

/-- One bit's shift. -/
def sh (s : BitVec 16) : BitVec 16 := if s.msb then (s <<< 1) ^^^ 0x1021#16 else s <<< 1

theorem xlc (a b c : BitVec 16) : a ^^^ (b ^^^ c) = b ^^^ (a ^^^ c) := by rw [← BitVec.xor_assoc, BitVec.xor_comm a, BitVec.xor_assoc]
theorem xcan (a b : BitVec 16) : a ^^^ (a ^^^ b) = b := by rw [← BitVec.xor_assoc, BitVec.xor_self, BitVec.zero_xor]

theorem sh_xor (a b : BitVec 16) : sh (a ^^^ b) = sh a ^^^ sh b := by
  unfold sh
  rw [BitVec.msb_xor, BitVec.shiftLeft_xor_distrib]
  cases a.msb <;> cases b.msb <;> simp [BitVec.xor_assoc, BitVec.xor_comm, xlc]

theorem sh_zero : sh 0#16 = 0#16 := by decide +kernel

theorem sh_eq_zero {a : BitVec 16} (h : sh a = 0#16) : a = 0#16 := by
  unfold sh at h
  cases hm : a.msb with
  | true =>
    rw [hm, if_pos rfl] at h
    have := congrArg (fun x : BitVec 16 => x.getLsbD 0) h
    simp at this
  | false =>
    rw [hm] at h
    simp at h
    apply BitVec.eq_of_getLsbD_eq
    intro i hi
    by_cases h15 : i = 15
    · subst h15
      simpa [BitVec.msb_eq_getLsbD_last] using hm
    · have := congrArg (fun x : BitVec 16 => x.getLsbD (i + 1)) h
      simpa [show i + 1 < 16 by omega, BitVec.getLsbD_eq_getElem, hi] using this

theorem xor_eq_zero {a b : BitVec 16} (h : a ^^^ b = 0#16) : a = b := BitVec.xor_eq_zero_iff.1 h

theorem sh_inj {a b : BitVec 16} (h : sh a = sh b) : a = b := by
  apply xor_eq_zero
  apply sh_eq_zero
  rw [sh_xor, h, BitVec.xor_self]

/-- n shifts. -/
def shN : Nat → BitVec 16 → BitVec 16
  | 0, s => s
  | n + 1, s => shN n (sh s)

theorem shN_add (m n : Nat) (s : BitVec 16) : shN (m + n) s = shN n (shN m s) := by
  induction m generalizing s with
  | zero => simp [shN]
  | succ m ih => rw [Nat.succ_add]; exact ih (sh s)
theorem shN_succ' (n : Nat) (s : BitVec 16) : shN (n + 1) s = sh (shN n s) := shN_add n 1 s
theorem shN_xor (n : Nat) (a b : BitVec 16) : shN n (a ^^^ b) = shN n a ^^^ shN n b := by
  induction n generalizing a b with
  | zero => rfl
  | succ n ih => rw [shN, sh_xor, ih]; rfl
theorem shN_zero (n : Nat) : shN n 0#16 = 0#16 := by
  induction n with
  | zero => rfl
  | succ n ih => rw [shN, sh_zero, ih]
theorem shN_inj {n : Nat} {a b : BitVec 16} (h : shN n a = shN n b) : a = b := by
  induction n generalizing a b with
  | zero => exact h
  | succ n ih => exact sh_inj (ih h)
theorem shN_eq_zero {n : Nat} {a : BitVec 16} (h : shN n a = 0#16) : a = 0#16 := shN_inj (h.trans (shN_zero n).symm)

/-- A byte at the register's head. -/
def up (c : UInt8) : BitVec 16 := c.toBitVec.setWidth 16 <<< 8
/-- A byte at the register's foot. -/
def low (c : UInt8) : BitVec 16 := c.toBitVec.setWidth 16

/-- One byte. -/
def stp (s : BitVec 16) (c : UInt8) : BitVec 16 := shN 8 (s ^^^ up c)
/-- Bytes, from a sum on. -/
def run (s : BitVec 16) (l : List UInt8) : BitVec 16 := l.foldl stp s
/-- The sum. -/
def sum (l : List UInt8) : BitVec 16 := run 0xFFFF#16 l

theorem run_nil (s : BitVec 16) : run s [] = s := rfl
theorem run_cons (s : BitVec 16) (c : UInt8) (l : List UInt8) : run s (c :: l) = run (stp s c) l := rfl
theorem run_append (s : BitVec 16) (a b : List UInt8) : run s (a ++ b) = run (run s a) b := List.foldl_append
theorem sum_append (a b : List UInt8) : sum (a ++ b) = run (sum a) b := run_append _ a b
theorem run_snoc (s : BitVec 16) (a : List UInt8) (c : UInt8) : run s (a ++ [c]) = stp (run s a) c := run_append s a [c]

theorem stp_inj {a b : BitVec 16} {c : UInt8} (h : stp a c = stp b c) : a = b := by
  have := shN_inj h
  have h2 := congrArg (· ^^^ up c) this
  simpa [BitVec.xor_assoc] using h2
theorem up_inj {a b : UInt8} (h : up a = up b) : a = b := by
  apply UInt8.toBitVec_inj.1
  apply BitVec.eq_of_getLsbD_eq
  intro i hi
  have := congrArg (fun x : BitVec 16 => x.getLsbD (i + 8)) h
  simpa [up, show i + 8 < 16 by omega, show ¬ i + 8 < 8 by omega] using this
theorem stp_inj_byte {a : BitVec 16} {c d : UInt8} (h : stp a c = stp a d) : c = d := by
  have := shN_inj h
  have h2 := congrArg (a ^^^ ·) this
  exact up_inj (by simpa [← BitVec.xor_assoc] using h2)

/-- A foot's byte comes to the head in eight shifts. -/
theorem shN_low (c : UInt8) : shN 8 (low c) = up c := by
  have h : ∀ c : BitVec 8, shN 8 (c.setWidth 16) = c.setWidth 16 <<< 8 := by decide +kernel
  exact h c.toBitVec

/-- Two bytes at once. -/
theorem stp_stp (s : BitVec 16) (x y : UInt8) : stp (stp s x) y = shN 16 (s ^^^ (up x ^^^ low y)) := by
  unfold stp
  rw [← shN_low y, ← shN_xor, ← shN_add, BitVec.xor_assoc]

/-- A sum is its two bytes. -/
theorem two (s : BitVec 16) : up (UInt8.ofBitVec (s >>> 8 |>.setWidth 8)) ^^^ low (UInt8.ofBitVec (s.setWidth 8)) = s := by
  apply BitVec.eq_of_getLsbD_eq
  intro i hi
  simp only [up, low, BitVec.getLsbD_xor, BitVec.getLsbD_shiftLeft, BitVec.getLsbD_setWidth, BitVec.getLsbD_ushiftRight]
  by_cases h : i < 8
  · simp [h, hi]
  · simp [h, hi, show i - 8 < 8 by omega, show i - 8 < 16 by omega, show 8 + (i - 8) = i by omega]

def hi (s : BitVec 16) : UInt8 := UInt8.ofBitVec (s >>> 8 |>.setWidth 8)
def lo (s : BitVec 16) : UInt8 := UInt8.ofBitVec (s.setWidth 8)
theorem up_low_inj {x y x' y' : UInt8} (h : up x ^^^ low y = up x' ^^^ low y') : x = x' ∧ y = y' := by
  constructor
  · apply UInt8.toBitVec_inj.1
    apply BitVec.eq_of_getLsbD_eq
    intro i hi
    have := congrArg (fun x : BitVec 16 => x.getLsbD (i + 8)) h
    simpa [up, low, show i + 8 < 16 by omega, show ¬ i + 8 < 8 by omega, BitVec.getLsbD_of_ge] using this
  · apply UInt8.toBitVec_inj.1
    apply BitVec.eq_of_getLsbD_eq
    intro i hi
    have := congrArg (fun x : BitVec 16 => x.getLsbD i) h
    simpa [up, low, show i < 16 by omega, hi] using this

/-- Bytes with two behind them have the sum 0 just if these two are the sum. -/
theorem sum_two (l : List UInt8) (x y : UInt8) : sum (l ++ [x, y]) = 0#16 ↔ sum l = up x ^^^ low y := by
  rw [sum_append]
  show stp (stp (sum l) x) y = 0#16 ↔ _
  rw [stp_stp]
  constructor
  · intro h; exact xor_eq_zero (shN_eq_zero h)
  · intro h; rw [h, BitVec.xor_self, shN_zero]

theorem sum_whole (l : List UInt8) : sum (l ++ [hi (sum l), lo (sum l)]) = 0#16 := (sum_two l _ _).2 (two (sum l)).symm

/-! Linear. -/
theorem up_xor (a b : UInt8) : up (a ^^^ b) = up a ^^^ up b := by
  unfold up
  rw [UInt8.toBitVec_xor, BitVec.setWidth_xor, BitVec.shiftLeft_xor_distrib]
theorem stp_xor (s t : BitVec 16) (a b : UInt8) : stp (s ^^^ t) (a ^^^ b) = stp s a ^^^ stp t b := by
  unfold stp
  rw [← shN_xor, up_xor]
  congr 1
  simp only [BitVec.xor_assoc]
  congr 1
  rw [← BitVec.xor_assoc, BitVec.xor_comm t, BitVec.xor_assoc]
theorem run_xor : ∀ (a b : List UInt8) (s t : BitVec 16), a.length = b.length → run (s ^^^ t) (List.zipWith (· ^^^ ·) a b) = run s a ^^^ run t b
  | [], [], _, _, _ => rfl
  | x :: a, y :: b, s, t, h => by
    simp only [List.zipWith_cons_cons, run_cons, stp_xor]
    exact run_xor a b _ _ (by simpa using h)
theorem sum_three (a b c : List UInt8) (hb : b.length = a.length) (hc : c.length = a.length) :
    sum (List.zipWith (· ^^^ ·) (List.zipWith (· ^^^ ·) a b) c) = sum a ^^^ sum b ^^^ sum c := by
  have h : (0xFFFF#16 : BitVec 16) = (0xFFFF#16 ^^^ 0xFFFF#16) ^^^ 0xFFFF#16 := by decide +kernel
  unfold sum
  rw [h, run_xor _ _ _ _ (by simp [hb, hc]), run_xor _ _ _ _ hb.symm]
  simp

/-! A turned bit. -/
/-- The bit at place p of bytes, the highest of the first one first, turned. -/
def turn (l : List UInt8) (p : Nat) : List UInt8 := l.modify (p / 8) (· ^^^ (128 >>> UInt8.ofNat (p % 8)))
theorem length_turn (l : List UInt8) (p : Nat) : (turn l p).length = l.length := by simp [turn]

/-- The i-th bit from the top. -/
def tb (i : Nat) : BitVec 16 := 0x8000#16 >>> i
theorem shN_tb (i : Nat) (h : i < 16) : shN i (tb i) = 0x8000#16 := by
  have : ∀ i : Fin 16, shN i.1 (tb i.1) = 0x8000#16 := by decide +kernel
  exact this ⟨i, h⟩
theorem up_tb (i : Nat) (h : i < 8) : up (128 >>> UInt8.ofNat i) = tb i := by
  have : ∀ i : Fin 8, up (128 >>> UInt8.ofNat i.1) = tb i.1 := by decide +kernel
  exact this ⟨i, h⟩
theorem shN_tb_eq (m i : Nat) (h : i < 16) (hm : i ≤ m) : shN m (tb i) = shN (m - i) 0x8000#16 := by
  have : m = i + (m - i) := by omega
  conv => lhs; rw [this]
  rw [shN_add, shN_tb i h]

theorem run_turned (e : BitVec 16) : ∀ (l : List UInt8) (s : BitVec 16), run (s ^^^ e) l = run s l ^^^ shN (8 * l.length) e
  | [], _ => rfl
  | c :: l, s => by
    rw [run_cons, run_cons]
    have : stp (s ^^^ e) c = stp s c ^^^ shN 8 e := by
      unfold stp; rw [← shN_xor]; congr 1
      rw [BitVec.xor_assoc, BitVec.xor_comm e, BitVec.xor_assoc]
    rw [this, run_turned _ l, ← shN_add]
    congr 2
    simp; omega

theorem run_turn : ∀ (l : List UInt8) (p : Nat) (s : BitVec 16), p < 8 * l.length → run s (turn l p) = run s l ^^^ shN (8 * l.length - p) 0x8000#16
  | [], p, _, h => by simp at h
  | c :: l, p, s, h => by
    by_cases hp : p < 8
    · have h0 : p / 8 = 0 := by omega
      have h1 : p % 8 = p := by omega
      have : turn (c :: l) p = (c ^^^ (128 >>> UInt8.ofNat p)) :: l := by simp [turn, h0, h1]
      rw [this, run_cons, run_cons]
      have hs : stp s (c ^^^ (128 >>> UInt8.ofNat p)) = stp s c ^^^ shN (8 - p) 0x8000#16 := by
        unfold stp
        rw [up_xor, up_tb p hp, ← BitVec.xor_assoc, shN_xor, shN_tb_eq 8 p (by omega) (by omega)]
      rw [hs, run_turned, ← shN_add]
      congr 2
      simp; omega
    · have : turn (c :: l) p = c :: turn l (p - 8) := by
        have h0 : p / 8 = (p - 8) / 8 + 1 := by omega
        have h1 : p % 8 = (p - 8) % 8 := by omega
        simp [turn, h0, h1]
      rw [this, run_cons, run_cons, run_turn l (p - 8) _ (by simp at h; omega)]
      congr 2
      simp; omega

/-- Of the bits that begin at k, the first i, each turned where 'bits' has it (the highest first). -/
def burst (bits : Nat → Bool) (l : List UInt8) (k : Nat) : Nat → List UInt8
  | 0 => l
  | i + 1 => if k + i < 8 * l.length ∧ bits i then turn (burst bits l k i) (k + i) else burst bits l k i
theorem length_burst (bits : Nat → Bool) (l : List UInt8) (k i : Nat) : (burst bits l k i).length = l.length := by
  induction i with
  | zero => rfl
  | succ i ih => unfold burst; split <;> simp [length_turn, ih]

/-- What they come to at the register's top. -/
def tops (bits : Nat → Bool) (n : Nat) : Nat → BitVec 16
  | 0 => 0#16
  | i + 1 => if i < n ∧ bits i then tops bits n i ^^^ tb i else tops bits n i

theorem run_burst (bits : Nat → Bool) (l : List UInt8) (k : Nat) (s : BitVec 16) (hk : k < 8 * l.length) :
    ∀ i, i ≤ 16 → run s (burst bits l k i) = run s l ^^^ shN (8 * l.length - k) (tops bits (8 * l.length - k) i)
  | 0, _ => by simp [burst, tops, shN_zero]
  | i + 1, hi => by
    have ih := run_burst bits l k s hk i (by omega)
    unfold burst tops
    by_cases h : k + i < 8 * l.length ∧ bits i = true
    · rw [if_pos h, if_pos ⟨by omega, h.2⟩, run_turn _ _ _ (by rw [length_burst]; exact h.1), ih, length_burst, shN_xor, BitVec.xor_assoc,
        shN_tb_eq _ i (by omega) (by omega)]
      congr 3
      omega
    · rw [if_neg h, if_neg (by rintro ⟨h1, h2⟩; exact h ⟨by omega, h2⟩), ih]

theorem tops_msb (bits : Nat → Bool) (n : Nat) (hn : 0 < n) (h0 : bits 0 = true) : ∀ i, i < 16 → (tops bits n (i + 1)).msb = true
  | 0, _ => by simp only [tops, h0, hn, and_self, if_pos]; decide
  | i + 1, h => by
    have ih := tops_msb bits n hn h0 i (by omega)
    have hb : ∀ i : Fin 16, i.1 ≠ 0 → (tb i.1).msb = false := by decide +kernel
    unfold tops
    split
    · rw [BitVec.msb_xor, ih, hb ⟨i + 1, h⟩ (by simp)]; rfl
    · exact ih

/-- A burst is found. -/
theorem burst_found (bits : Nat → Bool) (h0 : bits 0 = true) (l : List UInt8) (k : Nat) (hk : k < 8 * l.length) (h : sum l = 0#16) : sum (burst bits l k 16) ≠ 0#16 := by
  unfold sum at *
  rw [run_burst bits l k _ hk 16 (by omega), h, BitVec.zero_xor]
  intro he
  have hz := shN_eq_zero he
  have := tops_msb bits (8 * l.length - k) (by omega) h0 15 (by omega)
  rw [hz] at this
  exact absurd this (by decide)

/-- Two that stand side by side, changed about. -/
theorem sum_swap (a b : List UInt8) (x y : UInt8) : sum (a ++ y :: x :: b) = sum (a ++ x :: y :: b) ↔ x = y := by
  constructor
  · intro h
    have run_inj : ∀ (b : List UInt8) {s t : BitVec 16}, run s b = run t b → s = t := by
      intro b
      induction b with
      | nil => intro s t h; exact h
      | cons c b ih => intro s t h; exact stp_inj (ih h)
    rw [sum_append, sum_append, run_cons, run_cons, run_cons, run_cons] at h
    have h1 := run_inj _ h
    rw [stp_stp, stp_stp] at h1
    have h2 := congrArg (sum a ^^^ ·) (shN_inj h1)
    simp only [← BitVec.xor_assoc, BitVec.xor_self, BitVec.zero_xor] at h2
    exact (up_low_inj h2).2
  · rintro rfl; rfl

end Go.Proofs.Ytmjoikjkmdbleaa.Crc
