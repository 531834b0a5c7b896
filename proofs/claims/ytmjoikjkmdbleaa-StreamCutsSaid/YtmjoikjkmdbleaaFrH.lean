/- The reference's Next whole; Same; shown. -/
import Derived.Test.YtmjoikjkmdbleaaFrG
import Derived.Laws.IdiomStrings
namespace Go.Proofs.Ytmjoikjkmdbleaa
open Go.RowKit Crc Fr
set_option linter.unusedVariables false

theorem up_low_toNat (p q : UInt8) : ((up p ^^^ low q).toNat : Int) = 256 * (p.toNat : Int) + (q.toNat : Int) := by
  have hq : (low q).toNat = q.toNat := by
    unfold low
    rw [BitVec.toNat_setWidth]
    have h1 := q.toNat_lt
    have : q.toBitVec.toNat = q.toNat := rfl
    omega
  have h := two (up p ^^^ low q)
  have e := up_low_inj h
  have h1 := hi_toNat (up p ^^^ low q)
  have h2 := lo_toNat (up p ^^^ low q)
  have e1 : hi (up p ^^^ low q) = p := e.1
  have e2 : lo (up p ^^^ low q) = q := e.2
  rw [e1] at h1
  rw [e2] at h2
  omega

theorem rnext_any (B : Nat) (A : Option Addr) (n c : Nat) (l : List UInt8) (w : World) (hr : Reads w B 1 A n (l.map bv)) (hB : B ≤ w.heap.size) (hc : n ≤ c) (hm : c ≤ maxLen) :
    Calls Try.prog 32 #[.slice A n c] w (Gives (Fr.next l) w) := by
  have hl : l.length = n := by simpa using hr.1
  match l, hl, hr with
  | [], hl, hr =>
    obtain rfl : 0 = n := hl
    exact (rnext0 A c w).mono fun e w' ⟨h1, h2⟩ => Gives.plain rfl h1 h2
  | c0 :: t, hl, hr =>
    obtain ⟨b, off, rfl, hb, hcell⟩ := hr.open_ (by simp at hl; omega)
    have hal : ∀ (k : Nat) (u : UInt8), (c0 :: t)[k]? = some u → ∀ o : Obj, (w.alloc o).cell? ⟨b, off + k, none⟩ = some (.int .u8 u.toNat) := fun k u h o =>
      (World.cell?_alloc_lt w o _ (by simp; omega)).trans (hcell k u h)
    have h0 : ∀ o, (w.alloc o).cell? ⟨b, off, none⟩ = some (.int .u8 c0.toNat) := fun o => hal 0 c0 rfl o
    have hm0 := bne_u8 c0 165 (by omega)
    by_cases h : c0 = 165
    case neg =>
      have hx : Fr.next (c0 :: t) = skip (Fr.ahead (c0 :: t)) := next_of_head _ _ h
      rw [hx]
      exact (rnext_skip b off n c c0 (c0 :: t) w hl (by simp at hl; omega) hc hm h0 hal (by rw [show (165 : Int) = ((165 : Nat) : Int) from rfl, hm0]; simpa using h)).mono fun e w' ⟨h1, h2⟩ => Gives.plain rfl h1 h2
    subst h
    match t, hl, hr, hcell, hal with
    | [], hl, hr, hcell, hal =>
      obtain rfl : 1 = n := hl
      exact (rnext1 b off c w hm h0).mono fun e w' ⟨h1, h2⟩ => Gives.plain rfl h1 h2
    | [c1], hl, hr, hcell, hal =>
      obtain rfl : 2 = n := hl
      have h1 : ∀ o, (w.alloc o).cell? ⟨b, off + 1, none⟩ = some (.int .u8 c1.toNat) := fun o => hal 1 c1 rfl o
      have hm1 := bne_u8 c1 1 (by omega)
      by_cases hv : c1 = 1
      · subst hv
        exact (rnext2 b off c w hm h0 h1).mono fun e w' ⟨h1, h2⟩ => Gives.plain rfl h1 h2
      · have hx : Fr.next [165, c1] = Fr.reject 10 := by simp [Fr.next, hv]
        rw [hx]
        exact (rnext_version b off 2 c c1 w (by omega) (by omega) h0 h1 (by rw [show (1 : Int) = ((1 : Nat) : Int) from rfl, hm1]; simpa using hv)).mono fun e w' ⟨h1, h2⟩ => Gives.plain rfl h1 h2
    | c1 :: nb :: r, hl, hr, hcell, hal =>
      have hl3 : r.length + 3 = n := hl
      have h1 : ∀ o, (w.alloc o).cell? ⟨b, off + 1, none⟩ = some (.int .u8 c1.toNat) := fun o => hal 1 c1 rfl o
      have h2 : ∀ o, (w.alloc o).cell? ⟨b, off + 2, none⟩ = some (.int .u8 nb.toNat) := fun o => hal 2 nb rfl o
      have hm1 := bne_u8 c1 1 (by omega)
      by_cases hv : c1 = 1
      case neg =>
        have hx : Fr.next (165 :: c1 :: nb :: r) = Fr.reject 10 := by simp [Fr.next, hv]
        rw [hx]
        exact (rnext_version b off n c c1 w (by omega) (by omega) h0 h1 (by rw [show (1 : Int) = ((1 : Nat) : Int) from rfl, hm1]; simpa using hv)).mono fun e w' ⟨h1, h2⟩ => Gives.plain rfl h1 h2
      subst hv
      have hx : Fr.next (165 :: 1 :: nb :: r) = behind nb r := by simp [Fr.next]
      rw [hx]
      unfold behind
      by_cases h32 : 32 < nb.toNat
      · simp only [if_pos h32]
        exact (rnext_long b off n c nb w (by omega) (by omega) h0 h1 h2 h32).mono fun e w' ⟨h1, h2⟩ => Gives.plain rfl h1 h2
      simp only [if_neg h32]
      by_cases h5 : r.length < nb.toNat + 2
      · simp only [if_pos h5]
        exact (rnext_wait b off n c nb w (by omega) (by omega) h0 h1 h2 (by omega) (by omega)).mono fun e w' ⟨h1, h2⟩ => Gives.plain rfl h1 h2
      simp only [if_neg h5]
      have hp : ∀ o, (w.alloc o).cell? ⟨b, off + (nb.toNat + 3), none⟩ = some (.int .u8 (r.getD nb.toNat 0).toNat) := fun o => hal _ _ (by
        simp [List.getD_eq_getElem?_getD, List.getElem?_eq_getElem (show nb.toNat < r.length by omega)]) o
      have hq : ∀ o, (w.alloc o).cell? ⟨b, off + (nb.toNat + 4), none⟩ = some (.int .u8 (r.getD (nb.toNat + 1) 0).toNat) := fun o => hal _ _ (by
        rw [show nb.toNat + 4 = nb.toNat + 1 + 1 + 1 + 1 by omega]
        simp [List.getD_eq_getElem?_getD, List.getElem?_eq_getElem (show nb.toNat + 1 < r.length by omega)]) o
      have hs : Reads w B 1 (some ⟨b, off + 1, none⟩) (nb.toNat + 2) (([1, nb] ++ r.take nb.toNat).map bv) := by
        refine Reads.mk_ (by simp; omega) hb (fun k u hu => ?_)
        rw [Nat.add_assoc]
        apply hcell
        rw [Nat.add_comm 1 k, List.getElem?_cons_succ, ← hu]
        match k with
        | 0 => rfl
        | 1 => rfl
        | k + 2 =>
          simp only [List.cons_append, List.nil_append, List.getElem?_cons_succ, List.getElem?_take]
          by_cases h : k < nb.toNat
          · rw [if_pos h]
          · simp only [List.cons_append, List.nil_append, List.getElem?_cons_succ, List.getElem?_take, if_neg h] at hu
            cases hu
      have hul := up_low_toNat (r.getD nb.toNat 0) (r.getD (nb.toNat + 1) 0)
      by_cases hsum : Crc.sum ([1, nb] ++ r.take nb.toNat) = up (r.getD nb.toNat 0) ^^^ low (r.getD (nb.toNat + 1) 0)
      · simp only [if_pos hsum]
        have hbd : Reads w B 1 (some ⟨b, off + 3, none⟩) nb.toNat ((r.take nb.toNat).map bv) := by
          refine Reads.mk_ (by simp; omega) hb (fun k u hu => ?_)
          rw [Nat.add_assoc]
          apply hcell
          rw [show 3 + k = k + 1 + 1 + 1 by omega]
          simp only [List.getElem?_cons_succ]
          rw [List.getElem?_take] at hu
          split at hu
          · exact hu
          · cases hu
        refine (rnext_ok B b off n c nb _ _ _ w h0 h1 h2 hs hB (by omega) hc hm (by omega) hp hq _ hbd (by rw [hsum, hul]; simp)).mono ?_
        rintro e w' ⟨A', k', c', rfl, ho, hbl⟩
        refine ⟨A', k', c', ?_, ho, hbl⟩
        have e5 : (frame (r.take nb.toNat)).size = nb.toNat + 5 := by simp [frame]; omega
        rw [e5]
        rfl
      · simp only [if_neg hsum]
        refine (rnext_sum B b off n c nb _ _ _ w h0 h1 h2 hs hB (by omega) hc hm (by omega) hp hq (by rw [bne_iff_ne, ← hul]; intro e; exact hsum (BitVec.eq_of_toNat_eq (by omega)))).mono ?_
        rintro e w' ⟨rfl, hb⟩
        exact ⟨none, 0, 0, rfl, OwnB.nil _ _, hb⟩

/-! Same. -/
theorem conv_any {w : World} {B n c : Nat} {A : Option Addr} {x : List UInt8} (hr : Reads w B 1 A n (x.map bv)) : (convert 22 9 (.slice A n c)).run Try.prog w = .ok (.string ⟨x.toArray⟩) w := by
  have hl : x.length = n := by simpa using hr.1
  have u9 : Try.prog.underlying 9 = some .string := by kernel_rfl
  subst hl
  rcases A with _ | a
  · have h0 : x.length = 0 := by
      rcases Nat.eq_zero_or_pos x.length with h | h
      · exact h
      · obtain ⟨_, h1, _⟩ := hr.2 h; cases h1
    obtain rfl : x = [] := List.eq_nil_of_length_eq_zero h0
    exact run_convert_bytes_nil w 22 5 Try.underlying22 Try.underlying5 0 c 9 u9
  · refine run_convert_bytes_back w 22 9 5 a c x Try.underlying22 Try.underlying5 u9 (fun j hj => ?_)
    obtain ⟨ad, u, e, _, h1, h2⟩ := hr.at_ hj
    injection e with e
    subst e
    rw [h2, ← h1]
    simp [List.getElem?_eq_getElem hj, bv]
set_option maxHeartbeats 1000000 in
theorem same_eq (A A' : Option Addr) (n m c d : Nat) (k s e : Int) (x y : List UInt8) (B : Nat) (w : World) (hB : B ≤ w.heap.size) (hx : Reads w B 1 A n (x.map bv)) (hy : Reads w B 1 A' m (y.map bv)) :
    Calls Try.prog 29 #[.agg #[.int .i64 k, .int .i64 s, .int .i64 e, .slice A n c], .agg #[.int .i64 k, .int .i64 s, .int .i64 e, .slice A' m d]] w fun e w' => e = .returned (.bool (x == y)) ∧ Below w.heap.size w w' := by
  have cx : ∀ o1 o2, (convert 22 9 (.slice A n c)).run Try.prog ((w.alloc o1).alloc o2) = .ok (.string ⟨x.toArray⟩) ((w.alloc o1).alloc o2) := fun o1 o2 => conv_any ((hx.alloc hB o1).alloc (by simp; omega) o2)
  have cy : ∀ o1 o2, (convert 22 9 (.slice A' m d)).run Try.prog ((w.alloc o1).alloc o2) = .ok (.string ⟨y.toArray⟩) ((w.alloc o1).alloc o2) := fun o1 o2 => conv_any ((hy.alloc hB o1).alloc (by simp; omega) o2)
  go_enter Try.func29, Try.ntmps29
  go_wp2_with fail
  go_ret
  exact ⟨rfl, ((Below.refl w.heap.size w).alloc (Nat.le_refl _) _).alloc (by simp) _⟩
end Go.Proofs.Ytmjoikjkmdbleaa
