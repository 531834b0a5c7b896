/- The plain law of streams: the items of bytes and what is left; no program in sight. -/
import Derived.Test.YtmjoikjkmdbleaaFrA
namespace Go.Proofs.Ytmjoikjkmdbleaa.St
open Crc Fr

/-- An item: its code, its body. -/
abbrev It := Nat × List UInt8
def item (f : Fd) : List It := if f.kind = 2 then [(0, f.body)] else if f.kind = 3 then [(f.code, [])] else []
/-- The items of bytes, and what is left. -/
def scan (l : List UInt8) : List It × List UInt8 :=
  if h : (Fr.next l).kind = 0 then ([], l) else
  (item (Fr.next l) ++ (scan (l.drop (Fr.next l).size)).1, (scan (l.drop (Fr.next l).size)).2)
termination_by l.length
decreasing_by all_goals (have := goes_size l h; simp; omega)

theorem scan_wait {l : List UInt8} (h : (Fr.next l).kind = 0) : scan l = ([], l) := by rw [scan, dif_pos h]
theorem scan_step {l : List UInt8} (h : (Fr.next l).kind ≠ 0) : scan l = (item (Fr.next l) ++ (scan (l.drop (Fr.next l).size)).1, (scan (l.drop (Fr.next l).size)).2) := by
  rw [scan, dif_neg h]
theorem scan_nil : scan [] = ([], []) := scan_wait rfl

theorem scan_ahead (b : List UInt8) : scan b = scan (b.drop (ahead b)) := by
  match b with
  | [] => rfl
  | c :: r =>
    by_cases hc : c = 165
    · rw [show ahead (c :: r) = 0 by simp [ahead, hc], List.drop_zero]
    · have h := next_of_head c r hc
      have hk : (Fr.next (c :: r)).kind ≠ 0 := by rw [h]; simp [skip]
      rw [scan_step hk, h]
      simp [skip, item]

theorem ahead_noise (a b : List UInt8) (h : ∀ c ∈ a, c ≠ 165) : ahead (a ++ b) = a.length + ahead b := by
  induction a with
  | nil => simp
  | cons c r ih =>
    have hc : c ≠ 165 := h c (by simp)
    have := ih (fun x hx => h x (by simp [hx]))
    simp [ahead, hc, this]; omega
theorem scan_noise (a b : List UInt8) (h : ∀ c ∈ a, c ≠ 165) : scan (a ++ b) = scan b := by
  rw [scan_ahead (a ++ b), ahead_noise a b h, scan_ahead b, List.drop_append, List.drop_eq_nil_of_le (by omega)]
  simp
theorem noise_of_ahead (a : List UInt8) (h : ahead a = a.length) : ∀ c ∈ a, c ≠ 165 := by
  induction a with
  | nil => simp
  | cons c r ih =>
    by_cases hc : c = 165
    · simp [ahead, hc] at h
    · simp [ahead, hc] at h
      intro x hx
      rcases List.mem_cons.1 hx with rfl | hx
      · exact hc
      · exact ih h x hx

theorem scan_append_aux (n : Nat) : ∀ a b : List UInt8, a.length ≤ n → scan (a ++ b) = ((scan a).1 ++ (scan ((scan a).2 ++ b)).1, (scan ((scan a).2 ++ b)).2) := by
  induction n with
  | zero =>
    intro a b h
    obtain rfl : a = [] := List.eq_nil_of_length_eq_zero (by omega)
    simp [scan_nil]
  | succ n ih =>
    intro a b h
    by_cases h0 : (Fr.next a).kind = 0
    · simp [scan_wait h0]
    · have hs := goes_size a h0
      by_cases h1 : (Fr.next a).kind = 1
      · obtain ⟨hk, hle, hor⟩ := goes_skip a b h1
        rcases hor with he | he
        · have hk0 : (Fr.next (a ++ b)).kind ≠ 0 := by omega
          have hi : item (Fr.next (a ++ b)) = [] := by simp [item, hk]
          have hi' : item (Fr.next a) = [] := by simp [item, h1]
          rw [scan_step hk0, scan_step h0, he, List.drop_append_of_le_length hs.2, ih (a.drop _) b (by simp; omega), hi, hi']
          simp
        · have hx := next_skip a h1
          have hn : ahead a = a.length := by have := hx.2.2; rw [this] at he; simpa [skip] using he
          have hno := noise_of_ahead a hn
          have e1 : scan a = ([], []) := by have := scan_noise a [] hno; simpa [scan_nil] using this
          rw [scan_noise a b hno, e1]
          simp
      · have hm := goes_more a b h0 h1
        have hk0 : (Fr.next (a ++ b)).kind ≠ 0 := by rw [hm]; exact h0
        rw [scan_step hk0, scan_step h0, hm, List.drop_append_of_le_length hs.2, ih (a.drop _) b (by simp; omega)]
        simp
/-- What is left is all that matters. -/
theorem scan_append (a b : List UInt8) : scan (a ++ b) = ((scan a).1 ++ (scan ((scan a).2 ++ b)).1, (scan ((scan a).2 ++ b)).2) := scan_append_aux a.length a b (Nat.le_refl _)

theorem scan_left_aux (n : Nat) : ∀ l : List UInt8, l.length ≤ n → (Fr.next (scan l).2).kind = 0 ∧ ∃ p, l = p ++ (scan l).2 := by
  induction n with
  | zero =>
    intro l h
    obtain rfl : l = [] := List.eq_nil_of_length_eq_zero (by omega)
    rw [scan_nil]
    exact ⟨rfl, [], rfl⟩
  | succ n ih =>
    intro l h
    by_cases h0 : (Fr.next l).kind = 0
    · rw [scan_wait h0]; exact ⟨h0, [], rfl⟩
    · have hs := goes_size l h0
      obtain ⟨h1, p, hp⟩ := ih (l.drop (Fr.next l).size) (by simp; omega)
      rw [scan_step h0]
      refine ⟨h1, l.take (Fr.next l).size ++ p, ?_⟩
      simp only
      rw [List.append_assoc, ← hp, List.take_append_drop]
theorem left_wait (l : List UInt8) : (Fr.next (scan l).2).kind = 0 := (scan_left_aux _ l (Nat.le_refl _)).1
theorem left_suffix (l : List UInt8) : ∃ p, l = p ++ (scan l).2 := (scan_left_aux _ l (Nat.le_refl _)).2
theorem left_le (l : List UInt8) : (scan l).2.length ≤ l.length := by
  obtain ⟨p, hp⟩ := left_suffix l
  have := congrArg List.length hp
  simp at this; omega
theorem left_drop (l : List UInt8) : l.drop (l.length - (scan l).2.length) = (scan l).2 := by
  obtain ⟨p, hp⟩ := left_suffix l
  generalize (scan l).2 = r at *
  subst hp
  simp
theorem left_short (l : List UInt8) : (scan l).2.length < 37 := (goes_wait _ (left_wait l)).2
theorem scan_left (l : List UInt8) : scan (scan l).2 = ([], (scan l).2) := scan_wait (left_wait l)
theorem left_mark (l : List UInt8) (h : (scan l).2 ≠ []) : (scan l).2.head? = some 165 := by
  have hw := left_wait l
  generalize (scan l).2 = r at *
  match r with
  | [] => exact absurd rfl h
  | c :: t =>
    by_cases hc : c = 165
    · rw [hc]; rfl
    · rw [next_of_head c t hc] at hw
      simp [skip] at hw
/-- Behind 36 bytes that are no mark nothing is left. -/
theorem left_calm (l : List UInt8) (c : UInt8) (hc : c ≠ 165) : (scan (l ++ List.replicate 36 c)).2 = [] := by
  by_cases h : (scan (l ++ List.replicate 36 c)).2 = []
  · exact h
  · have hm := left_mark _ h
    have hs := left_short (l ++ List.replicate 36 c)
    obtain ⟨p, hp⟩ := left_suffix (l ++ List.replicate 36 c)
    generalize (scan (l ++ List.replicate 36 c)).2 = r at *
    exfalso
    match r with
    | [] => exact h rfl
    | d :: t =>
      have hd : d = 165 := by simpa using hm
      have hl := congrArg List.length hp
      simp at hl hs
      have h1 : (l ++ List.replicate 36 c)[p.length]? = some d := by rw [hp]; simp
      rw [List.getElem?_append_right (by omega), List.getElem?_replicate, if_pos (by omega)] at h1
      injection h1 with h1
      exact hc (h1.trans hd)
theorem scan_frame (b m : List UInt8) (h : b.length ≤ 32) : scan (put b ++ m) = ((0, b) :: (scan m).1, (scan m).2) := by
  have hn := next_put b m h
  have hk : (Fr.next (put b ++ m)).kind ≠ 0 := by rw [hn]; simp [frame]
  rw [scan_step hk, hn]
  simp [frame, item, ← put_length]
end Go.Proofs.Ytmjoikjkmdbleaa.St
