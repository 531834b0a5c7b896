/- The walk of Same over two rows of items. -/
import Derived.Test.YtmjoikjkmdbleaaStD
namespace Go.Proofs.Ytmjoikjkmdbleaa
open Go.RowKit Crc Fr St
set_option linter.unusedVariables false

theorem Reads.open2 {w : World} {B n : Nat} {A : Option Addr} {vs : List Value} (h : Reads w B 2 A n vs) (hn : 0 < n) :
    ∃ b off, A = some ⟨b, off, none⟩ ∧ b < B ∧ ∀ k u, vs[k]? = some u → w.cell? ⟨b, off + k, none⟩ = some u := by
  have hl : vs.length = n * 2 := h.1
  obtain ⟨ad, rfl, hb, hc⟩ := h.2 hn
  obtain ⟨b, off, spot⟩ := ad
  have h0 := hc 0 vs[0] (List.getElem?_eq_getElem (by omega))
  have hs : spot = none := by simpa [Addr.add] using World.cell?_spot h0
  subst hs
  refine ⟨b, off, rfl, hb, fun k u hu => ?_⟩
  have := hc k u hu
  have e : (⟨b, off, none⟩ : Addr).add k = ⟨b, off + k, none⟩ := by unfold Addr.add; split <;> simp_all
  rw [e] at this
  exact this

theorem take_succ_eq {α : Type} (a b : List α) (i : Nat) (x y : α) (hx : a[i]? = some x) (hy : b[i]? = some y) (h : a.take i = b.take i) (e : x = y) : a.take (i + 1) = b.take (i + 1) := by
  rw [List.take_add_one, List.take_add_one, hx, hy, h, e]

set_option maxHeartbeats 1000000 in
theorem same07_any (w : World) (A1 A2 : Option Addr) (k c1 c2 : Nat) (its1 its2 : List It) (B1 B2 : Nat) (vs1 vs2 : List Value) (g1 g2 : Nat → Prop) (h1 : Reads w B1 2 A1 k vs1) (i1 : Its w g1 its1 vs1) (h2 : Reads w B2 2 A2 k vs2) (i2 : Its w g2 its2 vs2)
    (hm : k ≤ maxLen) : Calls Try.prog 40 #[.slice A1 k c1, .slice A2 k c2] w fun e w' => e = .returned (.bool (decide (its1 = its2))) ∧ Below w.heap.size w w' := by
  have hl1 : its1.length = k := by have := h1.1; have := i1.length; omega
  have hl2 : its2.length = k := by have := h2.1; have := i2.length; omega
  have H1 := Lib.hid h1
  have H2 := Lib.hid h2
  have I1 := Lib.hid i1
  have I2 := Lib.hid i2
  have L1 := Lib.hid hl1
  have L2 := Lib.hid hl2
  unfold maxLen at hm
  clear h1 h2 i1 i2 hl1 hl2
  go_enter Try.func40, Try.ntmps40
  go_wp2
  go_loopw [5] (fun v wr => ∃ i : Nat, i ≤ k ∧ v = .int .i64 i ∧ its1.take i = its2.take i ∧ ∃ m, wr = w.drewN m) (fun v _ => k - (intOf v).toNat)
  case atStart => exact ⟨0, by omega, rfl, rfl, 0, rfl⟩
  case round =>
    obtain ⟨i, hi, rfl, htk, m, rfl⟩ := hrel
    have HT := Lib.hid htk
    clear htk
    by_cases hlt : i < k
    · obtain ⟨⟨p1, x1⟩, e1⟩ : ∃ x, its1[i]? = some x := ⟨its1[i]'(by rw [L1.out]; exact hlt), List.getElem?_eq_getElem _⟩
      obtain ⟨⟨p2, x2⟩, e2⟩ : ∃ x, its2[i]? = some x := ⟨its2[i]'(by rw [L2.out]; exact hlt), List.getElem?_eq_getElem _⟩
      obtain ⟨q1, X1, kx1, cx1, r1, d1⟩ := I1.out.get e1
      obtain ⟨q2, X2, kx2, cx2, r2, d2⟩ := I2.out.get e2
      obtain ⟨b1, o1, rfl, -, hc1⟩ := H1.out.open2 (by omega)
      obtain ⟨b2, o2, rfl, -, hc2⟩ := H2.out.open2 (by omega)
      have f1 : ∀ m, (w.drewN m).cell? ⟨b1, o1 + i * 2, none⟩ = some (.int .i64 (p1 : Int)) := fun m => hc1 _ _ q1
      have f2 : ∀ m, (w.drewN m).cell? ⟨b1, o1 + i * 2 + 1, none⟩ = some (.slice X1 kx1 cx1) := fun m => hc1 _ _ r1
      have f3 : ∀ m, (w.drewN m).cell? ⟨b2, o2 + i * 2, none⟩ = some (.int .i64 (p2 : Int)) := fun m => hc2 _ _ q2
      have f4 : ∀ m, (w.drewN m).cell? ⟨b2, o2 + i * 2 + 1, none⟩ = some (.slice X2 kx2 cx2) := fun m => hc2 _ _ r2
      have cv1 : ∀ m, (convert 22 9 (.slice X1 kx1 cx1)).run Try.prog (w.drewN m) = .ok (.string ⟨x1.toArray⟩) (w.drewN m) := fun m => conv_any (d1.reads.drewN m)
      have cv2 : ∀ m, (convert 22 9 (.slice X2 kx2 cx2)).run Try.prog (w.drewN m) = .ok (.string ⟨x2.toArray⟩) (w.drewN m) := fun m => conv_any (d2.reads.drewN m)
      have E1 := Lib.hid e1
      have E2 := Lib.hid e2
      clear e1 e2 q1 q2 r1 r2 d1 d2 hc1 hc2
      by_cases hp : p1 = p2
      · subst hp
        by_cases hx : x1 = x2
        · subst hx
          go_wp2
          go_quiet (fail)
          go_wp2
          all_goals exact ⟨⟨i + 1, by omega, by go_num, take_succ_eq _ _ _ _ _ E1.out E2.out HT.out rfl, _, rfl⟩, by simp [intOf]; omega⟩
        · have hne : its1 ≠ its2 := fun e => by rw [e] at E1; have := E1.out.symm.trans E2.out; simp at this; exact hx this
          have hxb : (!x1 == x2) = true := by simpa using hx
          go_wp2
          go_quiet (fail)
          go_wp2
          go_ret
          exact ⟨by rw [decide_eq_false hne]; exact rfl, below_drewN (below_drewN (Below.refl _ _) _) _⟩
      · have hne : its1 ≠ its2 := fun e => by rw [e] at E1; have := E1.out.symm.trans E2.out; simp at this; exact hp this.1
        have hpb : ((p1 : Int) == (p2 : Int)) = false := by simp; omega
        have hpn : ((p1 : Int) != (p2 : Int)) = true := by simp; omega
        go_wp2
        go_quiet (fail)
        go_wp2
        go_ret
        exact ⟨by rw [decide_eq_false hne]; exact rfl, below_drewN (below_drewN (Below.refl _ _) _) _⟩
    · obtain rfl : i = k := by omega
      have he : its1 = its2 := by
        have := HT.out
        rwa [List.take_of_length_le (by rw [L1.out]; omega), List.take_of_length_le (by rw [L2.out]; omega)] at this
      go_wp2
      go_ret
      exact ⟨by rw [decide_eq_true he]; exact rfl, below_drewN (Below.refl _ _) _⟩
end Go.Proofs.Ytmjoikjkmdbleaa
