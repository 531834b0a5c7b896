/- Walks: New, Rest, Take. -/
import Derived.Test.YtmjoikjkmdbleaaStC
import Derived.Test.YtmjoikjkmdbleaaFrM
namespace Go.Proofs.Ytmjoikjkmdbleaa
open Go.RowKit Crc Fr St
set_option linter.unusedVariables false

theorem new_any (w : World) : Calls Try.prog 37 #[] w fun e w' => e = .returned (.pointer (some ⟨w.heap.size, 0, none⟩)) ∧ w' = w.alloc (.cells #[.slice none 0 0] 60) := by
  go_enter Try.func37, Try.ntmps37
  go_wp2
  go_ret
  exact ⟨rfl, rfl⟩
theorem rest_any (w : World) (g : Nat) (A : Option Addr) (k c : Nat) (h : w.cell? ⟨g, 0, none⟩ = some (.slice A k c)) : Calls Try.prog 41 #[.pointer (some ⟨g, 0, none⟩)] w fun e w' => e = .returned (.int .i64 (k : Int)) ∧ w' = w := by
  go_enter Try.func41, Try.ntmps41
  go_wp2
  go_ret
  exact ⟨rfl, rfl⟩

theorem ownsRow_mono {w : World} {base base' : Nat} {e : TypeId} {size n : Nat} {v : Value} {xs : List Value} (h : w.ownsRow base e size v n xs) (hb : base' ≤ base) : w.ownsRow base' e size v n xs :=
  ⟨h.1, h.2.imp id (fun ⟨g, cap, cur, h1, h2, h3⟩ => ⟨g, cap, cur, h1, Nat.le_trans hb h2, h3⟩)⟩
theorem frozen_below {w w' : World} {B : Nat} {a : Addr} (hb : Below B w w') (ha : a.block < B) : w'.frozen? a = w.frozen? a := World.frozen?_of_block (hb.block a.block ha)

set_option maxHeartbeats 1000000 in
theorem take_any (B : Nat) (A : Option Addr) (n c : Nat) (x : List UInt8) (w : World) (g base k0 c0 : Nat) (A0 : Option Addr) (rest : List UInt8) (hr : Reads w B 1 A n (x.map bv)) (hB : B ≤ w.heap.size) (hn : n ≤ 20000) (hk : k0 ≤ 20000)
    (hg : g < w.heap.size) (hcell : w.cell? ⟨g, 0, none⟩ = some (.slice A0 k0 c0)) (hfz : w.frozen? ⟨g, 0, none⟩ = false) (ho : OwnB w base A0 k0 c0 rest) :
    Calls Try.prog 38 #[.pointer (some ⟨g, 0, none⟩), .slice A n c] w fun e w' => ∃ A' k' c' A1 k1 c1, e = .returned (.slice A' k' c') ∧ OwnI w' w.heap.size (g5 w' w.heap.size) A' k' c' (scan (rest ++ x)).1 ∧
      w'.cell? ⟨g, 0, none⟩ = some (.slice A1 k1 c1) ∧ w'.frozen? ⟨g, 0, none⟩ = false ∧ OwnB w' w.heap.size A1 k1 c1 (scan (rest ++ x)).2 ∧ w.grownBy w' (some g) := by
  have hlr : rest.length = k0 := ho.length
  have hlx : x.length = n := by simpa using hr.1
  have HR := Lib.hid hr
  have HO := Lib.hid ho
  have hll := left_le (rest ++ x)
  have HLL := Lib.hid hll
  have hlen : (rest ++ x).length = k0 + n := by simp [hlr, hlx]
  have HLEN := Lib.hid hlen
  have hld := left_drop (rest ++ x)
  rw [hlen] at hld
  have HLD := Lib.hid hld
  clear hr ho hll hld hlen hlr hlx
  go_enter Try.func38, Try.ntmps38
  obtain ⟨L, hL⟩ : ∃ L, L = (scan (rest ++ x)).2.length := ⟨_, rfl⟩
  have hLle : L ≤ k0 + n := by have := HLL.out; have := HLEN.out; omega
  have HL := Lib.hid hL
  clear hL
  go_wp2_with (first
    | (at_make
       refine wpList_make0_b rfl (.const (.int .i64 0)) (.tmp 15) rfl w.heap.size _ _ _ (k0 + n) rfl rfl (by omega) (by omega) (Nat.le_refl _) ?_
       intro w1 o1 hg1
       have hb1 : Below w.heap.size w w1 := (Below.refl _ _).grown hg1 (Nat.le_refl _) (fun k hk => by cases hk)
       have hs1 := hb1.size
       have d1 := cell_below hb1 hcell hg
       clear hg1)
    | (at_builtin
       refine wpList_append_b rfl (.tmp 17) (.tmp 21) rfl w.heap.size _ 0 _ [] rfl o1 w.heap.size A0 k0 c0 rest rfl (HO.out.reads.below hb1) (by omega) hs1 ?_
       intro A2 k2 c2 w2 hk2 hk2' o2 hg2 _
       have hb2 : Below w.heap.size w w2 := hb1.grown hg2 hs1 (fun g hg => (o1.lt g hg).1)
       have hs2 := hb2.size
       clear hg2)
    | (at_builtin
       refine wpList_append_b rfl (.tmp 23) (.tmp 24) rfl w.heap.size A2 k2 c2 _ rfl o2 B A n c x rfl (HR.out.below (hb2.mono hB)) (by omega) hs2 ?_
       intro A3 k3 c3 w3 hk3 hk3' o3 hg3 _
       have hb3 : Below w.heap.size w w3 := hb2.grown hg3 hs2 (fun g hg => (o2.lt g hg).1)
       have hs3 := hb3.size
       obtain rfl : k3 = k0 + n := (by omega)
       have o3' : OwnB w3 w.heap.size A3 (k0 + n) c3 (rest ++ x) := o3
       have bd3 := o3'.bounds
       clear hg3 o3)
    | (go_at_call 39; (with_reducible refine (all_any w3.heap.size A3 (k0 + n) c3 (rest ++ x) w3 o3'.reads (Nat.le_refl _) bd3.1 bd3.2 (by omega)).mono ?_); rintro e w4 ⟨A4, k4, c4, rfl, o4, hb4⟩
       rw [← HL.out]
       have hs4 := hb4.size
       have hb4' : Below w.heap.size w w4 := hb3.trans (hb4.mono hs3)
       have sl := fun w => slice_any A3 (k0 + n) c3 (k0 + n - L) w ((k0 : Int) + n - (L : Int)) (by omega) (by omega) bd3.1
       have hcut : Reads w4 w3.heap.size 1 (if c3 = k0 + n - L then A3 else A3.map (·.add (k0 + n - L))) (k0 + n - (k0 + n - L)) ((scan (rest ++ x)).2.map bv) := (by
         have h1 := Reads.cut (k := k0 + n - L) (o3'.reads.below hb4) (by omega) bd3.1
         rw [Nat.mul_one, ← List.map_drop, HL.out, HLD.out] at h1
         rw [HL.out]
         exact h1)
       have HCUT := Lib.hid hcut
       clear hcut
       generalize (if c3 = k0 + n - L then A3 else A3.map (·.add (k0 + n - L))) = A3' at sl HCUT)
    | (at_builtin
       refine wpList_append_b rfl (.const (.slice none 0 0)) (.tmp 37) rfl w.heap.size none 0 0 [] rfl (OwnB.nil _ _) w3.heap.size A3' _ _ _ rfl HCUT.out (by omega) (by omega) ?_
       intro A5 k5 c5 w5 hk5 hk5' o5 hg5 _
       have hb5 : Below w4.heap.size w4 w5 := (Below.refl _ _).grown hg5 (Nat.le_refl _) (fun k hk => by cases hk)
       have hb5' : Below w.heap.size w w5 := hb4'.trans (hb5.mono (by omega))
       have d5 := cell_below hb5' hcell hg
       have z5 := (frozen_below hb5' (a := ⟨g, 0, none⟩) hg).trans hfz
       clear hg5))
  go_ret
  have hgs := grownBy_setCell w5 ⟨g, 0, none⟩ (.slice A5 k5 c5)
  have hs5 := hb5.size
  refine ⟨A4, k4, c4, A5, k5, c5, rfl, ?_, World.cell?_setCell_same _ _ _ d5, by simpa using z5, ?_, ⟨hgs.os.trans hb5'.os, hgs.tape.trans hb5'.tape, hgs.output.trans hb5'.output, Nat.le_trans hb5'.size hgs.size, fun k hk hne => (hgs.block k (by omega) hne).trans (hb5'.block k hk)⟩⟩
  · have o5' := o4.belw hb5
    obtain ⟨vs, h1, h2⟩ := o5'
    refine OwnI.keep (w := w5) (good := g5 w5 w3.heap.size) ⟨vs, ownsRow_mono h1 hs3, h2⟩ hgs.size (fun g' hg' hlt => hgs.block g' hlt ?_) (fun p hp hlt => hgs.block p hlt ?_) (fun p hp hlt => ?_)
    · have := (OwnI.lt ⟨vs, h1, h2⟩ hg').1
      simp; omega
    · have := hp.1; simp; omega
    · exact g5.of_eq ⟨Nat.le_trans hs3 hp.1, hp.2⟩ (hgs.block p hlt (by have := hp.1; simp; omega))
  · exact OwnB.grown o5 hgs (fun g' hA e => by
      subst hA
      have e : g = g' := by injection e
      have := o5.ltg.1
      omega)
end Go.Proofs.Ytmjoikjkmdbleaa
