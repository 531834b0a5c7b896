/- The plain law of frames: what stands at the beginning of bytes, what a frame is; no program in sight. -/
import Derived.Test.YtmjoikjkmdbleaaCrcA
namespace Go.Proofs.Ytmjoikjkmdbleaa.Fr
open Crc

/-- What is found. -/
structure Fd where
  kind : Nat
  size : Nat
  code : Nat
  body : List UInt8

def wait : Fd := ⟨0, 0, 0, []⟩
def skip (n : Nat) : Fd := ⟨1, n, 0, []⟩
def frame (b : List UInt8) : Fd := ⟨2, b.length + 5, 0, b⟩
def reject (c : Nat) : Fd := ⟨3, 1, c, []⟩

/-- How many bytes there are ahead of the first mark. -/
def ahead : List UInt8 → Nat
  | [] => 0
  | c :: r => if c = 165 then 0 else ahead r + 1

/-- Behind the mark, the version and the length n. -/
def behind (n : UInt8) (r : List UInt8) : Fd :=
  if 32 < n.toNat then reject 11 else if r.length < n.toNat + 2 then wait else
  if sum ([1, n] ++ r.take n.toNat) = up (r.getD n.toNat 0) ^^^ low (r.getD (n.toNat + 1) 0) then frame (r.take n.toNat) else reject 12
def next : List UInt8 → Fd
  | [] => wait
  | [c] => if c = 165 then wait else skip (ahead [c])
  | [c, v] => if c = 165 then if v = 1 then wait else reject 10 else skip (ahead [c, v])
  | c :: v :: n :: r => if c = 165 then if v = 1 then behind n r else reject 10 else skip (ahead (c :: v :: n :: r))

/-- A frame. -/
def put (b : List UInt8) : List UInt8 :=
  [165, 1, UInt8.ofNat b.length] ++ b ++ [hi (sum ([1, UInt8.ofNat b.length] ++ b)), lo (sum ([1, UInt8.ofNat b.length] ++ b))]
theorem put_length (b : List UInt8) : (put b).length = b.length + 5 := by simp [put]

theorem ahead_le (l : List UInt8) : ahead l ≤ l.length := by
  induction l with
  | nil => simp [ahead]
  | cons c r ih => unfold ahead; split <;> simp <;> omega
theorem ahead_append (l m : List UInt8) : ahead (l ++ m) = if ahead l = l.length then l.length + ahead m else ahead l := by
  induction l with
  | nil => simp [ahead]
  | cons c r ih =>
    by_cases hc : c = 165
    · have e1 : ahead (c :: r) = 0 := by simp [ahead, hc]
      have e2 : ahead ((c :: r) ++ m) = 0 := by simp [ahead, hc]
      rw [e1, e2]; simp
    · have e1 : ahead (c :: r) = ahead r + 1 := by simp [ahead, hc]
      have e2 : ahead ((c :: r) ++ m) = ahead (r ++ m) + 1 := by simp [ahead, hc]
      rw [e1, e2, ih]
      by_cases h : ahead r = r.length
      · simp [h]; omega
      · simp [h]

theorem behind_cases (n : UInt8) (r : List UInt8) : (behind n r = reject 11 ∧ 32 < n.toNat) ∨ (behind n r = wait ∧ n.toNat ≤ 32 ∧ r.length < n.toNat + 2) ∨
    (n.toNat ≤ 32 ∧ n.toNat + 2 ≤ r.length ∧ (behind n r = frame (r.take n.toNat) ∨ behind n r = reject 12)) := by
  unfold behind
  by_cases h1 : 32 < n.toNat
  · exact .inl ⟨if_pos h1, h1⟩
  · rw [if_neg h1]
    by_cases h2 : r.length < n.toNat + 2
    · exact .inr (.inl ⟨if_pos h2, by omega, h2⟩)
    · rw [if_neg h2]
      refine .inr (.inr ⟨by omega, by omega, ?_⟩)
      split
      · exact .inl rfl
      · exact .inr rfl

/-! That what stands at the beginning is done with. -/
theorem goes_wait (l : List UInt8) (h : (next l).kind = 0) : (next l).size = 0 ∧ l.length < 37 := by
  match l with
  | [] => exact ⟨rfl, by simp⟩
  | [c] =>
    by_cases hc : c = 165
    · simp [next, hc, wait]
    · simp [next, hc, skip] at h
  | [c, v] =>
    by_cases hc : c = 165
    · by_cases hv : v = 1
      · simp [next, hc, hv, wait]
      · simp [next, hc, hv, reject] at h
    · simp [next, hc, skip] at h
  | c :: v :: n :: r =>
    by_cases hc : c = 165
    · by_cases hv : v = 1
      · simp only [next, hc, hv, if_true] at h ⊢
        rcases behind_cases n r with ⟨h1, _⟩ | ⟨h1, h2, h3⟩ | ⟨_, _, h1 | h1⟩
        · rw [h1] at h; simp [reject] at h
        · rw [h1]; exact ⟨rfl, by simp; omega⟩
        · rw [h1] at h; simp [frame] at h
        · rw [h1] at h; simp [reject] at h
      · simp [next, hc, hv, reject] at h
    · simp [next, hc, skip] at h
theorem goes_size (l : List UInt8) (h : (next l).kind ≠ 0) : 1 ≤ (next l).size ∧ (next l).size ≤ l.length := by
  have hs : ∀ (c : UInt8) (r : List UInt8), c ≠ 165 → 1 ≤ ahead (c :: r) ∧ ahead (c :: r) ≤ (c :: r).length := fun c r hc =>
    ⟨by simp [ahead, hc], ahead_le _⟩
  match l with
  | [] => exact absurd rfl h
  | [c] =>
    by_cases hc : c = 165
    · simp [next, hc, wait] at h
    · simp only [next, hc, if_false, skip]; exact hs _ _ hc
  | [c, v] =>
    by_cases hc : c = 165
    · by_cases hv : v = 1
      · simp [next, hc, hv, wait] at h
      · simp [next, hc, hv, reject]
    · simp only [next, hc, if_false, skip]; exact hs _ _ hc
  | c :: v :: n :: r =>
    by_cases hc : c = 165
    · by_cases hv : v = 1
      · simp only [next, hc, hv, if_true] at h ⊢
        rcases behind_cases n r with ⟨h1, _⟩ | ⟨h1, h2, h3⟩ | ⟨h2, h3, h1 | h1⟩
        · rw [h1]; simp [reject]
        · rw [h1] at h; exact absurd rfl h
        · rw [h1]; simp [frame]; omega
        · rw [h1]; simp [reject]
      · simp [next, hc, hv, reject]
    · simp only [next, hc, if_false, skip]; exact hs _ _ hc

theorem behind_more (n : UInt8) (r m : List UInt8) (h : behind n r ≠ wait) : behind n (r ++ m) = behind n r := by
  rcases behind_cases n r with ⟨h1, h2⟩ | ⟨h1, h2, h3⟩ | ⟨h2, h3, _⟩
  · rw [h1]; unfold behind; rw [if_pos h2]
  · exact absurd h1 h
  · unfold behind
    have e1 : (r ++ m).take n.toNat = r.take n.toNat := by rw [List.take_append_of_le_length (by omega)]
    have e2 : (r ++ m).getD n.toNat 0 = r.getD n.toNat 0 := by simp [List.getD_eq_getElem?_getD, List.getElem?_append_left (show n.toNat < r.length by omega)]
    have e3 : (r ++ m).getD (n.toNat + 1) 0 = r.getD (n.toNat + 1) 0 := by simp [List.getD_eq_getElem?_getD, List.getElem?_append_left (show n.toNat + 1 < r.length by omega)]
    rw [e1, e2, e3]
    have h4 : ¬ 32 < n.toNat := by omega
    have h5 : ¬ (r ++ m).length < n.toNat + 2 := by rw [List.length_append]; omega
    have h6 : ¬ r.length < n.toNat + 2 := by omega
    rw [if_neg h4, if_neg h5, if_neg h4, if_neg h6]
/-- What was told of a beginning holds whatever comes behind it, but where it waits, or where nothing stands. -/
theorem goes_more (l m : List UInt8) (h0 : (next l).kind ≠ 0) (h1 : (next l).kind ≠ 1) : next (l ++ m) = next l := by
  match l with
  | [] => exact absurd rfl h0
  | [c] =>
    by_cases hc : c = 165
    · simp [next, hc, wait] at h0
    · simp [next, hc, skip] at h1
  | [c, v] =>
    by_cases hc : c = 165
    · by_cases hv : v = 1
      · simp [next, hc, hv, wait] at h0
      · match m with
        | [] => simp
        | n :: r => simp [next, hc, hv]
    · simp [next, hc, skip] at h1
  | c :: v :: n :: r =>
    by_cases hc : c = 165
    · by_cases hv : v = 1
      · simp only [List.cons_append, next, hc, hv, if_true] at h0 ⊢
        exact behind_more n r m (fun e => h0 (by rw [e]; rfl))
      · simp [next, hc, hv]
    · simp [next, hc, skip] at h1
theorem next_skip (l : List UInt8) (h : (next l).kind = 1) : l ≠ [] ∧ l.head? ≠ some 165 ∧ next l = skip (ahead l) := by
  match l with
  | [] => simp [next, wait] at h
  | [c] =>
    by_cases hc : c = 165
    · simp [next, hc, wait] at h
    · simp [next, hc]
  | [c, v] =>
    by_cases hc : c = 165
    · by_cases hv : v = 1
      · simp [next, hc, hv, wait] at h
      · simp [next, hc, hv, reject] at h
    · simp [next, hc]
  | c :: v :: n :: r =>
    by_cases hc : c = 165
    · by_cases hv : v = 1
      · simp only [next, hc, hv, if_true] at h
        rcases behind_cases n r with ⟨h1, _⟩ | ⟨h1, h2, h3⟩ | ⟨h2, h3, h1 | h1⟩ <;> rw [h1] at h <;> simp [reject, wait, frame] at h
      · simp [next, hc, hv, reject] at h
    · simp [next, hc]
theorem next_of_head (c : UInt8) (r : List UInt8) (hc : c ≠ 165) : next (c :: r) = skip (ahead (c :: r)) := by
  match r with
  | [] => simp [next, hc]
  | [v] => simp [next, hc]
  | v :: n :: r => simp [next, hc]
theorem goes_skip (l m : List UInt8) (h : (next l).kind = 1) : (next (l ++ m)).kind = 1 ∧ (next l).size ≤ (next (l ++ m)).size ∧ ((next (l ++ m)).size = (next l).size ∨ (next l).size = l.length) := by
  obtain ⟨h1, h2, h3⟩ := next_skip l h
  match l, h1 with
  | c :: r, _ =>
    have hc : c ≠ 165 := by simpa using h2
    have e : next (c :: r ++ m) = skip (ahead (c :: r ++ m)) := next_of_head c (r ++ m) hc
    rw [e, h3]
    refine ⟨rfl, ?_, ?_⟩
    · show ahead (c :: r) ≤ ahead (c :: r ++ m)
      rw [ahead_append]; split <;> omega
    · show ahead (c :: r ++ m) = ahead (c :: r) ∨ ahead (c :: r) = (c :: r).length
      rw [ahead_append]
      by_cases hh : ahead (c :: r) = (c :: r).length
      · exact .inr hh
      · rw [if_neg hh]; exact .inl rfl

/-! Frames. -/
theorem ofNat_toNat (n : Nat) (h : n ≤ 32) : (UInt8.ofNat n).toNat = n := by simp; omega
/-- A frame is found whole, whatever stands behind it. -/
theorem next_put (b m : List UInt8) (h : b.length ≤ 32) : next (put b ++ m) = frame b := by
  have e : put b ++ m = 165 :: 1 :: UInt8.ofNat b.length :: (b ++ (hi (sum ([1, UInt8.ofNat b.length] ++ b)) :: lo (sum ([1, UInt8.ofNat b.length] ++ b)) :: m)) := by simp [put]
  rw [e]
  simp only [next, if_true]
  have hn := ofNat_toNat b.length h
  unfold behind
  rw [hn, if_neg (by omega), if_neg (by simp)]
  have e1 : ∀ (p q : UInt8) (t : List UInt8), (b ++ p :: q :: t).take b.length = b := by intro p q t; simp
  have e2 : ∀ (p q : UInt8) (t : List UInt8), (b ++ p :: q :: t).getD b.length 0 = p := by intro p q t; simp [List.getD_eq_getElem?_getD]
  have e3 : ∀ (p q : UInt8) (t : List UInt8), (b ++ p :: q :: t).getD (b.length + 1) 0 = q := by intro p q t; simp [List.getD_eq_getElem?_getD]
  rw [e1, e2, e3, if_pos]
  exact (two _).symm
/-- Each of its beginnings waits. -/
theorem next_take (b : List UInt8) (h : b.length ≤ 32) (i : Nat) (hi' : i < (put b).length) : next ((put b).take i) = wait := by
  rw [put_length] at hi'
  have e : put b = 165 :: 1 :: UInt8.ofNat b.length :: (b ++ [hi (sum ([1, UInt8.ofNat b.length] ++ b)), lo (sum ([1, UInt8.ofNat b.length] ++ b))]) := by simp [put]
  rw [e]
  match i, hi' with
  | 0, _ => rfl
  | 1, _ => rfl
  | 2, _ => rfl
  | i + 3, hi' =>
    simp only [List.take_succ_cons, next, if_true]
    have hn := ofNat_toNat b.length h
    unfold behind
    rw [hn, if_neg (by omega), if_pos (by simp; omega)]
/-- Bytes behind the third one that have not the sum that they should. -/
theorem next_sum (n : UInt8) (t : List UInt8) (hn : n.toNat ≤ 32) (ht : t.length = n.toNat + 2) (h : sum ([1, n] ++ t) ≠ 0#16) : next (165 :: 1 :: n :: t) = reject 12 := by
  simp only [next, if_true]
  unfold behind
  rw [if_neg (by omega), if_neg (by omega), if_neg]
  intro e
  apply h
  have : t = t.take n.toNat ++ [t.getD n.toNat 0, t.getD (n.toNat + 1) 0] := by
    apply List.ext_getElem?
    intro i
    by_cases h1 : i < n.toNat
    · rw [List.getElem?_append_left (by simp; omega), List.getElem?_take, if_pos h1]
    · rw [List.getElem?_append_right (by simp; omega)]
      rw [List.length_take, Nat.min_eq_left (by omega)]
      by_cases h2 : i = n.toNat
      · subst h2; simp [List.getD_eq_getElem?_getD, List.getElem?_eq_getElem (show n.toNat < t.length by omega)]
      · by_cases h3 : i = n.toNat + 1
        · subst h3
          simp [List.getD_eq_getElem?_getD, List.getElem?_eq_getElem (show n.toNat + 1 < t.length by omega), show n.toNat + 1 - n.toNat = 1 by omega]
        · rw [List.getElem?_eq_none (by omega), List.getElem?_eq_none (by simp; omega)]
  rw [this, ← List.append_assoc]
  exact (sum_two _ _ _).2 e
theorem sum_put (b : List UInt8) : sum ((put b).drop 1) = 0#16 := by
  have e : (put b).drop 1 = ([1, UInt8.ofNat b.length] ++ b) ++ [hi (sum ([1, UInt8.ofNat b.length] ++ b)), lo (sum ([1, UInt8.ofNat b.length] ++ b))] := by simp [put]
  rw [e]; exact sum_whole _

/-- With a burst behind the third byte a frame is found to be none by its sum. -/
theorem burst_run (f : Nat → Bool) (h0 : f 0 = true) (s : BitVec 16) (l : List UInt8) (k : Nat) (hk : k < 8 * l.length) (h : run s l = 0#16) : run s (burst f l k 16) ≠ 0#16 := by
  rw [run_burst f l k _ hk 16 (by omega), h, BitVec.zero_xor]
  intro he
  have hz := shN_eq_zero he
  have := tops_msb f (8 * l.length - k) (by omega) h0 15 (by omega)
  rw [hz] at this
  exact absurd this (by decide)
theorem next_burst (f : Nat → Bool) (h0 : f 0 = true) (b : List UInt8) (hb : b.length ≤ 32) (k : Nat) (hk : k < 8 * (b.length + 2)) :
    next ((put b).take 3 ++ burst f ((put b).drop 3) k 16) = reject 12 := by
  have hl : ((put b).drop 3).length = b.length + 2 := by rw [List.length_drop, put_length]; omega
  have e3 : (put b).take 3 = [165, 1, UInt8.ofNat b.length] := by simp [put]
  rw [e3]
  refine next_sum (UInt8.ofNat b.length) (burst f ((put b).drop 3) k 16) (by rw [ofNat_toNat _ hb]; exact hb) (by rw [length_burst, hl, ofNat_toNat _ hb]) ?_
  rw [sum_append]
  refine burst_run f h0 _ _ k (by rw [hl]; exact hk) ?_
  have h1 := sum_put b
  have e : (put b).drop 1 = [1, UInt8.ofNat b.length] ++ (put b).drop 3 := by simp [put]
  rw [e, sum_append] at h1
  exact h1
/-- Unlike bodies have unlike frames, and none is the beginning of another one's. -/
theorem put_apart (x y : List UInt8) (hx : x.length ≤ 32) (hy : y.length ≤ 32) (n : Nat) (hn : n = min (put x).length (put y).length) : (put x).take n = (put y).take n ↔ x = y := by
  constructor
  · intro h
    rw [put_length, put_length] at hn
    have h5 : 5 ≤ n := by omega
    have e2 := congrArg (fun l => l[2]?) h
    simp only [List.getElem?_take, if_pos (show 2 < n by omega)] at e2
    have hl : x.length = y.length := by
      simp [put] at e2
      have := congrArg UInt8.toNat e2
      rw [ofNat_toNat _ hx, ofNat_toNat _ hy] at this
      exact this
    have hx' : ((put x).take n).drop 3 = x ++ [hi (sum ([1, UInt8.ofNat x.length] ++ x)), lo (sum ([1, UInt8.ofNat x.length] ++ x))] := by
      rw [List.take_of_length_le (by rw [put_length]; omega)]; simp [put]
    have hy' : ((put y).take n).drop 3 = y ++ [hi (sum ([1, UInt8.ofNat y.length] ++ y)), lo (sum ([1, UInt8.ofNat y.length] ++ y))] := by
      rw [List.take_of_length_le (by rw [put_length]; omega)]; simp [put]
    rw [h, hy'] at hx'
    exact ((List.append_inj hx' hl.symm).1).symm
  · rintro rfl; rfl
end Go.Proofs.Ytmjoikjkmdbleaa.Fr
