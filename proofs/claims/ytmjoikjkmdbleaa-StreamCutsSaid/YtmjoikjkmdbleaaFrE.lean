/- frame.Next and the reference's Next come to the plain law's 'next'; frame.Put and the reference's to 'put'. -/
import Derived.Test.YtmjoikjkmdbleaaFrD
namespace Go.Proofs.Ytmjoikjkmdbleaa
open Go.RowKit Crc Fr

set_option maxHeartbeats 400000 in
theorem next0 (A : Option Addr) (c : Nat) (w : World) :
    Calls Try.prog 28 #[.slice A 0 c] w fun e w' => e = .returned (.agg #[.int .i64 0, .int .i64 0, .int .i64 0, .slice none 0 0]) ∧ Below w.heap.size w w' := by
  go_enter Try.func28, Try.ntmps28
  go_wp2
  exact bodyPost_ret (v := .agg #[.int .i64 0, .int .i64 0, .int .i64 0, .slice none 0 0]) (by simp [results, Try.results28, go_sem]) rfl ⟨rfl, ((Below.refl w.heap.size w).alloc (Nat.le_refl _) _).alloc (by simp) _⟩

theorem bne_u8 (a : UInt8) (k : Nat) (hk : k < 256) : ((a.toNat : Int) != (k : Int)) = !decide (a = UInt8.ofNat k) := by
  by_cases h : a = UInt8.ofNat k
  · subst h
    have : (UInt8.ofNat k).toNat = k := by simp; omega
    simp [this]
  · have : a.toNat ≠ k := by
      intro e
      apply h
      apply UInt8.toNat_inj.1
      rw [e]; simp; omega
    simp only [h, decide_false, Bool.not_false]
    rw [bne_iff_ne]; omega

/-- What Next gives back. -/
def Gives (f : Fr.Fd) (w : World) (e : Ending) (w' : World) : Prop :=
  ∃ A' k' c', e = .returned (.agg #[.int .i64 (f.kind : Int), .int .i64 (f.size : Int), .int .i64 (f.code : Int), .slice A' k' c']) ∧ OwnB w' w.heap.size A' k' c' f.body ∧ Below w.heap.size w w'
theorem Gives.plain {f : Fr.Fd} {w w' : World} {e : Ending} (hf : f.body = []) (he : e = .returned (.agg #[.int .i64 (f.kind : Int), .int .i64 (f.size : Int), .int .i64 (f.code : Int), .slice none 0 0])) (hb : Below w.heap.size w w') : Gives f w e w' :=
  ⟨none, 0, 0, he, by rw [hf]; exact OwnB.nil _ _, hb⟩

theorem next_any (B : Nat) (A : Option Addr) (n c : Nat) (l : List UInt8) (w : World) (hr : Reads w B 1 A n (l.map bv)) (hB : B ≤ w.heap.size) (hc : n ≤ c) (hm : c ≤ maxLen) :
    Calls Try.prog 28 #[.slice A n c] w (Gives (Fr.next l) w) := by
  have hl : l.length = n := by simpa using hr.1
  match l, hl, hr with
  | [], hl, hr =>
    obtain rfl : 0 = n := hl
    exact (next0 A c w).mono fun e w' ⟨h1, h2⟩ => Gives.plain rfl h1 h2
  | c0 :: t, hl, hr =>
    obtain ⟨b, off, rfl, hb, hcell⟩ := hr.open_ (by simp at hl; omega)
    have hal : ∀ (k : Nat) (u : UInt8) (o1 o2 : Obj), (c0 :: t)[k]? = some u → ((w.alloc o1).alloc o2).cell? ⟨b, off + k, none⟩ = some (.int .u8 u.toNat) := fun k u o1 o2 h =>
      (World.cell?_alloc_lt (w.alloc o1) o2 _ (by simp; omega)).trans ((World.cell?_alloc_lt w o1 _ (by simp; omega)).trans (hcell k u h))
    have h0 : ∀ o1 o2, ((w.alloc o1).alloc o2).cell? ⟨b, off, none⟩ = some (.int .u8 c0.toNat) := fun o1 o2 => hal 0 c0 o1 o2 rfl
    have hm0 := bne_u8 c0 165 (by omega)
    match t, hl, hr, hcell, hal with
    | [], hl, hr, hcell, hal =>
      obtain rfl : 1 = n := hl
      by_cases h : c0 = 165
      · subst h
        exact (next1m B b off c 165 w hr hB hc hm (by omega) h0 (by simp)).mono fun e w' ⟨h1, h2⟩ => Gives.plain rfl h1 h2
      · have hx : Fr.next [c0] = skip (Fr.ahead [c0]) := next_of_head _ _ h
        rw [hx]
        exact (next1s B b off c c0 w hr hB hc hm (by omega) h0 (by rw [show (165 : Int) = ((165 : Nat) : Int) from rfl, hm0]; simpa using h)).mono fun e w' ⟨h1, h2⟩ => Gives.plain rfl h1 h2
    | [c1], hl, hr, hcell, hal =>
      obtain rfl : 2 = n := hl
      have h1 : ∀ o1 o2, ((w.alloc o1).alloc o2).cell? ⟨b, off + 1, none⟩ = some (.int .u8 c1.toNat) := fun o1 o2 => hal 1 c1 o1 o2 rfl
      have hm1 := bne_u8 c1 1 (by omega)
      by_cases hv : c1 = 1
      · subst hv
        by_cases h : c0 = 165
        · subst h
          exact (next2vm B b off c 165 1 w hr hB hc hm (by omega) h0 h1 (by simp) (by simp)).mono fun e w' ⟨h1, h2⟩ => Gives.plain rfl h1 h2
        · have hx : Fr.next [c0, 1] = skip (Fr.ahead [c0, 1]) := next_of_head _ _ h
          rw [hx]
          exact (next2vs B b off c c0 1 w hr hB hc hm (by omega) h0 h1 (by rw [show (165 : Int) = ((165 : Nat) : Int) from rfl, hm0]; simpa using h) (by simp)).mono fun e w' ⟨h1, h2⟩ => Gives.plain rfl h1 h2
      · have e1 : ((c1.toNat : Int) != 1) = true := by rw [show (1 : Int) = ((1 : Nat) : Int) from rfl, hm1]; simpa using hv
        by_cases h : c0 = 165
        · subst h
          have hx : Fr.next [165, c1] = Fr.reject 10 := by simp [Fr.next, hv]
          rw [hx]
          exact (next2xm B b off c 165 c1 w hr hB hc hm (by omega) h0 h1 (by simp) e1).mono fun e w' ⟨h1, h2⟩ => Gives.plain rfl h1 h2
        · have hx : Fr.next [c0, c1] = skip (Fr.ahead [c0, c1]) := next_of_head _ _ h
          rw [hx]
          exact (next2xs B b off c c0 c1 w hr hB hc hm (by omega) h0 h1 (by rw [show (165 : Int) = ((165 : Nat) : Int) from rfl, hm0]; simpa using h) e1).mono fun e w' ⟨h1, h2⟩ => Gives.plain rfl h1 h2
    | c1 :: nb :: r, hl, hr, hcell, hal =>
      have h1 : ∀ o1 o2, ((w.alloc o1).alloc o2).cell? ⟨b, off + 1, none⟩ = some (.int .u8 c1.toNat) := fun o1 o2 => hal 1 c1 o1 o2 rfl
      have hm1 := bne_u8 c1 1 (by omega)
      by_cases hv : c1 = 1
      · subst hv
        by_cases h : c0 = 165
        · subst h
          have hx : Fr.next (165 :: 1 :: nb :: r) = behindV 1 nb r := by simp [Fr.next, behindV_one]
          rw [hx]
          exact (next3vm B b off c n 165 1 nb r w hr hB hc hm (by omega) h0 h1 (by simp) (by simp)).mono fun e w' h => h
        · have hx : Fr.next (c0 :: 1 :: nb :: r) = skip (Fr.ahead (c0 :: 1 :: nb :: r)) := next_of_head _ _ h
          rw [hx]
          exact (next3vs B b off c n c0 1 nb r w hr hB hc hm (by omega) h0 h1 (by rw [show (165 : Int) = ((165 : Nat) : Int) from rfl, hm0]; simpa using h) (by simp)).mono fun e w' ⟨h1, h2⟩ => Gives.plain rfl h1 h2
      · have e1 : ((c1.toNat : Int) != 1) = true := by rw [show (1 : Int) = ((1 : Nat) : Int) from rfl, hm1]; simpa using hv
        by_cases h : c0 = 165
        · subst h
          have hx : Fr.next (165 :: c1 :: nb :: r) = Fr.reject 10 := by simp [Fr.next, hv]
          rw [hx]
          exact (next3xm B b off c n 165 c1 nb r w hr hB hc hm (by omega) h0 h1 (by simp) e1).mono fun e w' ⟨h1, h2⟩ => Gives.plain rfl h1 h2
        · have hx : Fr.next (c0 :: c1 :: nb :: r) = skip (Fr.ahead (c0 :: c1 :: nb :: r)) := next_of_head _ _ h
          rw [hx]
          exact (next3xs B b off c n c0 c1 nb r w hr hB hc hm (by omega) h0 h1 (by rw [show (165 : Int) = ((165 : Nat) : Int) from rfl, hm0]; simpa using h) e1).mono fun e w' ⟨h1, h2⟩ => Gives.plain rfl h1 h2
end Go.Proofs.Ytmjoikjkmdbleaa
