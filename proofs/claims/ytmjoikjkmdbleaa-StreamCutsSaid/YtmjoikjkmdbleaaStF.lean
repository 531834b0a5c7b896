/- The walk of shown. -/
import Derived.Test.YtmjoikjkmdbleaaStE
namespace Go.Proofs.Ytmjoikjkmdbleaa
open Go.RowKit Crc Fr St
set_option linter.unusedVariables false

theorem scan_a : scan ([] ++ [7, 165]) = ([], [165]) := by
  have h1 : Fr.next [7, 165] = Fr.skip 1 := rfl
  have h2 : scan [165] = ([], [165]) := scan_wait rfl
  have e : scan [7, 165] = (item (Fr.next [7, 165]) ++ (scan ([7, 165].drop (Fr.next [7, 165]).size)).1, (scan ([7, 165].drop (Fr.next [7, 165]).size)).2) := scan_step (by rw [h1]; simp [Fr.skip])
  rw [h1] at e
  exact e.trans (by show (_ ++ (scan [165]).1, (scan [165]).2) = _; rw [h2]; rfl)
theorem scan_b : scan ([165] ++ [2, 165]) = ([(10, [])], [165]) := by
  have h1 : Fr.next [165, 2, 165] = Fr.reject 10 := rfl
  have h3 : Fr.next [2, 165] = Fr.skip 1 := rfl
  have h2 : scan [165] = ([], [165]) := scan_wait rfl
  have e : scan [165, 2, 165] = (item (Fr.next [165, 2, 165]) ++ (scan ([165, 2, 165].drop (Fr.next [165, 2, 165]).size)).1, (scan ([165, 2, 165].drop (Fr.next [165, 2, 165]).size)).2) := scan_step (by rw [h1]; simp [Fr.reject])
  have e2 : scan [2, 165] = (item (Fr.next [2, 165]) ++ (scan ([2, 165].drop (Fr.next [2, 165]).size)).1, (scan ([2, 165].drop (Fr.next [2, 165]).size)).2) := scan_step (by rw [h3]; simp [Fr.skip])
  rw [h1] at e
  rw [h3] at e2
  have e3 : scan [2, 165] = ([], [165]) := e2.trans (by show (_ ++ (scan [165]).1, (scan [165]).2) = _; rw [h2]; rfl)
  exact e.trans (by show (_ ++ (scan [2, 165]).1, (scan [2, 165]).2) = _; rw [e3]; rfl)

/-- A stream: its pointer leads to block g; what is left lies in a row of its own, from block base on. -/
def Strm (w : World) (base g : Nat) (rest : List UInt8) : Prop :=
  g < w.heap.size ∧ w.frozen? ⟨g, 0, none⟩ = false ∧ ∃ A k c, w.cell? ⟨g, 0, none⟩ = some (.slice A k c) ∧ OwnB w base A k c rest
theorem Strm.new (w : World) (base : Nat) : Strm (w.alloc (.cells #[.slice none 0 0] 60)) base w.heap.size [] := by
  refine ⟨by simp, ?_, none, 0, 0, cell_new w _ 60 (0, 0) 0 _ rfl, OwnB.nil _ _⟩
  have h : (w.alloc (.cells #[.slice none 0 0] 60)).heap[w.heap.size]? = some (.cells #[.slice none 0 0] 60) := heap_alloc_new w _
  simp only [World.frozen?, h]
  rfl
theorem Strm.take {w : World} {base g : Nat} {rest : List UInt8} (h : Strm w base g rest) (B : Nat) (A : Option Addr) (n c : Nat) (x : List UInt8) (hr : Reads w B 1 A n (x.map bv)) (hB : B ≤ w.heap.size) (hn : n ≤ 20000) (hl : rest.length ≤ 20000) :
    Calls Try.prog 38 #[.pointer (some ⟨g, 0, none⟩), .slice A n c] w fun e w' => ∃ A' k' c', e = .returned (.slice A' k' c') ∧ OwnI w' w.heap.size (g5 w' w.heap.size) A' k' c' (scan (rest ++ x)).1 ∧
      Strm w' w.heap.size g (scan (rest ++ x)).2 ∧ w.grownBy w' (some g) := by
  obtain ⟨h1, h2, A0, k0, c0, h3, h4⟩ := h
  refine (take_any B A n c x w g base k0 c0 A0 rest hr hB hn (by have := h4.length; omega) h1 h3 h2 h4).mono ?_
  rintro e w' ⟨A', k', c', A1, k1, c1, he, ho, hc, hz, hb, hg⟩
  exact ⟨A', k', c', he, ho, ⟨by have := hg.size; omega, hz, A1, k1, c1, hc, hb⟩, hg⟩
theorem Strm.rest {w : World} {base g : Nat} {rest : List UInt8} (h : Strm w base g rest) : Calls Try.prog 41 #[.pointer (some ⟨g, 0, none⟩)] w fun e w' => e = .returned (.int .i64 (rest.length : Int)) ∧ w' = w := by
  obtain ⟨h1, h2, A0, k0, c0, h3, h4⟩ := h
  refine (rest_any w g A0 k0 c0 h3).mono ?_
  rintro e w' ⟨he, hw⟩
  exact ⟨by rw [he, h4.length], hw⟩
theorem Strm.belw {w w' : World} {base g : Nat} {rest : List UInt8} (h : Strm w base g rest) (hb : Below w.heap.size w w') : Strm w' base g rest := by
  obtain ⟨h1, h2, A0, k0, c0, h3, h4⟩ := h
  exact ⟨by have := hb.size; omega, (frozen_below hb h1).trans h2, A0, k0, c0, cell_below hb h3 h1, h4.below hb⟩
theorem Strm.mono {w : World} {base base' g : Nat} {rest : List UInt8} (h : Strm w base g rest) (hb : base' ≤ base) : Strm w base' g rest := by
  obtain ⟨h1, h2, A0, k0, c0, h3, h4⟩ := h
  exact ⟨h1, h2, A0, k0, c0, h3, h4.base hb⟩

set_option maxHeartbeats 1000000 in
theorem shown07_any (w : World) : Calls Try.prog 34 #[] w fun e w' => e = .returned (.bool true) ∧ Below w.heap.size w w' := by
  have R1 := Lib.hid (fun w : World => reads_new_b w [7, 165] #[.int .u8 7, .int .u8 165] 5 (0, 0) 2 rfl rfl)
  have R2 := Lib.hid (fun w : World => reads_new_b w [2, 165] #[.int .u8 2, .int .u8 165] 5 (0, 0) 2 rfl rfl)
  have S0 := Lib.hid (Strm.new w 0)
  go_enter Try.func34, Try.ntmps34
  go_wp2_with (first
    | (go_at_call 37; (with_reducible refine (new_any w).mono ?_); rintro e w' ⟨rfl, rfl⟩)
    | (go_at_call 38; (with_reducible refine ((S0.out.belw ((Below.refl _ _).alloc (Nat.le_refl _) (.cells #[.int .u8 7, .int .u8 165] 5))).take (w.heap.size + 2) _ 2 2 [7, 165] (by simpa using R1.out (w.alloc (.cells #[.slice none 0 0] 60))) (by simp) (by omega) (by simp)).mono ?_)
       rintro e w1 ⟨A1, k1, c1, rfl, o1, s1, hg1⟩
       rw [scan_a] at o1 s1
       have hs1 := hg1.size
       simp at hs1
       obtain rfl : 0 = k1 := o1.length
       clear o1)
    | (go_at_call 38; (with_reducible refine ((s1.belw ((Below.refl _ _).alloc (Nat.le_refl _) (.cells #[.int .u8 2, .int .u8 165] 5))).take (w1.heap.size + 1) _ 2 2 [2, 165] (R2.out w1) (by simp) (by omega) (by simp)).mono ?_)
       rintro e w2 ⟨A2, k2, c2, rfl, o2, s2, hg2⟩
       rw [scan_b] at o2 s2
       have hs2 := hg2.size
       simp at hs2
       obtain rfl : 1 = k2 := o2.length
       obtain ⟨vs, ov, iv⟩ := o2
       obtain ⟨q, A3, k3, c3, r, -⟩ := iv.get (i := 0) rfl
       obtain ⟨b, off, rfl, -, hcc⟩ := (Reads.of_own ov).open2 (by omega)
       have f0 : w2.cell? ⟨b, off, none⟩ = some (.int .i64 10) := hcc 0 _ q
       clear ov iv q r hcc)
    | (go_at_call 41; (with_reducible refine s2.rest.mono ?_); rintro e w' ⟨rfl, rfl⟩))
  go_ret
  refine ⟨rfl, ⟨hg2.os.trans hg1.os, hg2.tape.trans hg1.tape, hg2.output.trans hg1.output, by omega, fun k hk => ?_⟩⟩
  have a1 := hg1.block k (by simp; omega) (by intro e; injection e with e; omega)
  have a2 := hg2.block k (by simp; omega) (by intro e; injection e with e; omega)
  have b1 := (((Below.refl w.heap.size w).alloc (Nat.le_refl _) (.cells #[.slice none 0 0] 60)).alloc (by simp) (.cells #[.int .u8 7, .int .u8 165] 5)).block k hk
  have b2 := ((Below.refl w1.heap.size w1).alloc (Nat.le_refl _) (.cells #[.int .u8 2, .int .u8 165] 5)).block k (by omega)
  exact a2.trans (b2.trans (a1.trans b1))
end Go.Proofs.Ytmjoikjkmdbleaa
