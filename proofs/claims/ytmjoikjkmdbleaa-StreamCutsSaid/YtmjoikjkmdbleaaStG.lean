/- The walk of the law StreamNoise. -/
import Derived.Test.YtmjoikjkmdbleaaStF
namespace Go.Proofs.Ytmjoikjkmdbleaa
open Go.RowKit Crc Fr St
set_option linter.unusedVariables false

def calmOf (x : List UInt8) (i : Nat) : List UInt8 := (x.take i).filter (fun u => u != 165)
theorem calmOf_yes (x : List UInt8) (i : Nat) (u : UInt8) (h : x[i]? = some u) (hu : u ≠ 165) : calmOf x (i + 1) = calmOf x i ++ [u] := by
  unfold calmOf; rw [List.take_add_one, h, List.filter_append]; simp [hu]
theorem calmOf_no (x : List UInt8) (i : Nat) (u : UInt8) (h : x[i]? = some u) (hu : u = 165) : calmOf x (i + 1) = calmOf x i := by
  unfold calmOf; rw [List.take_add_one, h, List.filter_append]; simp [hu]
theorem calmOf_calm (x : List UInt8) (i : Nat) : ∀ u ∈ calmOf x i, u ≠ 165 := by
  intro u hu; have := List.mem_filter.1 hu; simpa using this.2
theorem calmOf_length (x : List UInt8) (i : Nat) : (calmOf x i).length ≤ i := by
  have := List.length_filter_le (fun u => u != 165) (x.take i)
  have h2 := List.length_take_le i x
  exact Nat.le_trans this h2
theorem calm_scan (x : List UInt8) (i : Nat) : scan (calmOf x i) = ([], []) := by
  have := scan_noise (calmOf x i) [] (calmOf_calm x i)
  rwa [List.append_nil, scan_nil] at this

theorem same07_refl (w : World) (A1 A2 : Option Addr) (k c1 c2 : Nat) (its : List It) (B1 B2 : Nat) (vs1 vs2 : List Value) (g1 g2 : Nat → Prop) (h1 : Reads w B1 2 A1 k vs1) (i1 : Its w g1 its vs1) (h2 : Reads w B2 2 A2 k vs2) (i2 : Its w g2 its vs2)
    (hm : k ≤ maxLen) : Calls Try.prog 40 #[.slice A1 k c1, .slice A2 k c2] w fun e w' => e = .returned (.bool true) ∧ Below w.heap.size w w' :=
  (same07_any w A1 A2 k c1 c2 its its B1 B2 vs1 vs2 g1 g2 h1 i1 h2 i2 hm).mono fun e w' ⟨h, hb⟩ => ⟨by rw [h, decide_eq_true rfl], hb⟩

set_option maxRecDepth 100000 in
set_option maxHeartbeats 2000000 in
theorem noise_walk (A B : Option Addr) (n m c d : Nat) (x y : List UInt8) (w : World) (hx : Reads w w.heap.size 1 A n (x.map bv)) (hy : Reads w w.heap.size 1 B m (y.map bv))
    (hn : n ≤ c) (hc : c ≤ maxLen) (hm : m ≤ d) (hd : d ≤ maxLen) :
    Calls Try.prog 18 #[.slice A n c, .slice B m d] w fun e w' => e = .returned (.bool true) ∧ Below w.heap.size w w' := by
  have hlx : x.length = n := by simpa using hx.1
  have HLX := Lib.hid hlx
  have HX := Lib.hid hx
  have HY := Lib.hid hy
  unfold maxLen at hc hd
  clear hx hy hlx
  go_enter Try.func18, Try.ntmps18
  go_wp2_with (go_at_call 34; (with_reducible refine (shown07_any _).mono ?_); rintro e w1 ⟨rfl, hb1⟩; have hs1 := hb1.size)
  go_loopw [6, 7] (fun v u wr => ∃ (i : Nat) (A1 : Option Addr) (k1 c1 : Nat), i ≤ n ∧ i ≤ 200 ∧ u = .int .i64 i ∧ v = .slice A1 k1 c1 ∧ OwnB wr w.heap.size A1 k1 c1 (calmOf x i) ∧ Below w.heap.size w wr) (fun _ u _ => n - (intOf u).toNat)
  case atStart => exact ⟨0, _, _, _, by omega, by omega, rfl, rfl, by simpa [calmOf] using (OwnB.made0 w1 hs1), hb1.alloc hs1 _⟩
  case round =>
    obtain ⟨i, A1, k1, c1, hi, hi2, rfl, rfl, ho, hbr⟩ := hrel
    have hws := hbr.size
    have hk1 : k1 ≤ 200 := by have := ho.length; have := calmOf_length x i; omega
    have HO := Lib.hid ho
    clear ho
    by_cases hlt : i < n ∧ i < 200
    · obtain ⟨hlt, hlt2⟩ := hlt
      obtain ⟨b, off, rfl, hbb, hcc⟩ := HX.out.open_ (by omega)
      obtain ⟨u, hu⟩ : ∃ u, x[i]? = some u := ⟨x[i]'(by rw [HLX.out]; exact hlt), List.getElem?_eq_getElem _⟩
      have f1 : wr.cell? ⟨b, off + i, none⟩ = some (.int .u8 (u.toNat : Int)) := cell_below hbr (hcc i u hu) hbb
      have HU := Lib.hid hu
      clear hu hcc
      have hbu := bne_u8 u 165 (by omega)
      by_cases h165 : u = 165
      · have hb0 : ((u.toNat : Int) != 165) = false := by rw [show (165 : Int) = ((165 : Nat) : Int) from rfl, hbu, h165]; rfl
        have H165 := Lib.hid h165
        clear hbu h165
        go_wp2
        go_roundw
        case rel => exact ⟨i + 1, _, _, _, by omega, by omega, by go_num, rfl, by rw [calmOf_no _ _ _ HU.out H165.out]; exact HO.out, hbr⟩
        case measure => simp [intOf]; omega
      · have hb0 : ((u.toNat : Int) != 165) = true := by rw [show (165 : Int) = ((165 : Nat) : Int) from rfl, hbu]; simpa using h165
        have H165 := Lib.hid h165
        clear hbu h165
        go_wp2_with (
          at_builtin
          refine wpList_append_b rfl (.tmp 32) (.tmp 37) rfl w.heap.size A1 k1 c1 _ rfl (HO.out.alloc _) (wr.heap.size + 1) (some ⟨wr.heap.size, 0, none⟩) 1 1 [u] rfl (reads_new_b wr [u] #[.int .u8 (u.toNat : Int)] 5 (0, 0) 1 rfl rfl) (by omega) (by simp; omega) ?_
          intro A3 k3 c3 w3 hk3 hk3' o3 hg3 _
          have hb3 : Below w.heap.size w w3 := (hbr.alloc hws _).grown hg3 (by simp; omega) (fun g hg => (HO.out.lt g hg).1)
          clear hg3)
        go_roundw
        case rel => exact ⟨i + 1, _, _, _, by omega, by omega, by go_num, rfl, by rw [calmOf_yes _ _ _ HU.out H165.out]; exact o3, hb3⟩
        case measure => simp [intOf]; omega
    · obtain ⟨M, hMm, hM2, hmin⟩ : ∃ M : Nat, M ≤ m ∧ M ≤ 200 ∧ (if (200 : Int) < (m : Int) then (200 : Int) else (m : Int)) = (M : Int) := by
        by_cases h : m ≤ 200
        · exact ⟨m, by omega, h, by rw [if_neg (by omega)]⟩
        · exact ⟨200, by omega, by omega, by rw [if_pos (by omega)]; rfl⟩
      have HYT := Lib.hid (HY.out.bytesTake hMm)
      have hyl : (y.take M).length = M := by have := HYT.out.1; simpa using this
      obtain ⟨L, hL⟩ : ∃ L, L = (scan (y.take M)).2.length := ⟨_, rfl⟩
      have hLle : L ≤ M := by have := left_le (y.take M); omega
      have hhd := left_mark (y.take M)
      have hld := left_drop (y.take M)
      rw [hyl, ← hL] at hld
      have HL := Lib.hid hL
      by_cases h0 : L = 0
      · subst h0
        clear hL hld hhd hyl
        by_cases hin : i < n
        all_goals
          go_wp2_with (first
            | (go_at_call 39; (with_reducible refine (all_any wr.heap.size A1 k1 c1 (calmOf x i) wr HO.out.reads (Nat.le_refl _) HO.out.bounds.1 HO.out.bounds.2 (by omega)).mono ?_); rintro e w2 ⟨A2, k2, c2, rfl, o2, hb2⟩
               rw [calm_scan] at o2 ⊢
               obtain rfl : 0 = k2 := o2.length
               clear o2
               have hB2 := hbr.trans (hb2.mono hws)
               have hs2 := hB2.size)
            | (go_at_call 39; (with_reducible refine (all_any w.heap.size B M d (y.take M) w2 (HYT.out.below hB2) hs2 (by omega) (by unfold maxLen; omega) (by omega)).mono ?_); rintro e w3 ⟨A3, k3, c3, rfl, o3, hb3⟩
               rw [← HL.out]
               have hB3 := hB2.trans (hb3.mono hs2)
               have hs3 := hB3.size
               have HO3 := Lib.hid o3
               have hoc := Lib.hid ((HO.out.below hb2).below (hb3.mono (by have := hb2.size; omega)))
               clear o3)
            | (at_builtin
               refine wpList_append_b rfl (.tmp 55) (.tmp 56) rfl w3.heap.size (some ⟨w3.heap.size, 0, none⟩) 0 0 [] rfl (OwnB.made0 w3 (Nat.le_refl _)) w3.heap.size A1 k1 c1 _ rfl (hoc.out.reads.alloc (Nat.le_refl _) _) (by omega) (by simp) ?_
               intro A4 k4 c4 w4 hk4 hk4' o4 hg4 _
               have hb4 : Below w3.heap.size w3 w4 := ((Below.refl _ _).alloc (Nat.le_refl _) _).grown hg4 (by simp) (by simp [Value.ownBlock])
               have hs4 := hb4.size
               have o4' : OwnB w4 w3.heap.size A4 k4 c4 (calmOf x i) := o4
               clear hg4 o4)
            | (at_builtin
               refine wpList_append_b rfl (.tmp 57) (.tmp 58) rfl w3.heap.size A4 k4 c4 _ rfl o4' w.heap.size B M d (y.take M) rfl ((HYT.out.below hB3).below (hb4.mono hs3)) (by omega) (by omega) ?_
               intro A5 k5 c5 w5 hk5 hk5' o5 hg5 _
               have hb5 : Below w3.heap.size w3 w5 := hb4.grown hg5 (by omega) (fun g hg => (o4'.lt g hg).1)
               have hs5 := hb5.size
               clear hg5)
            | (go_at_call 39; (with_reducible refine (all_any w5.heap.size A5 k5 c5 (calmOf x i ++ y.take M) w5 o5.reads (Nat.le_refl _) o5.bounds.1 o5.bounds.2 (by omega)).mono ?_); rintro e w6 ⟨A6, k6, c6, rfl, o6, hb6⟩
               rw [scan_noise _ _ (calmOf_calm x i), ← HL.out]
               rw [scan_noise _ _ (calmOf_calm x i)] at o6
               have hb6' := hb5.trans (hb6.mono hs5)
               have hB6 := hB3.trans (hb6'.mono hs3)
               have o3' := HO3.out.belw hb6'
               obtain rfl : k3 = k6 := o3'.length.symm.trans o6.length
               obtain ⟨vs3, ov3, iv3⟩ := o3'
               obtain ⟨vs6, ov6, iv6⟩ := o6
               have HS := Lib.hid (same07_refl w6 A3 A6 k3 c3 c6 _ _ _ _ _ _ _ (Reads.of_own ov3) iv3 (Reads.of_own ov6) iv6 (by rcases ov3.2 with ⟨_, h⟩ | ⟨_, _, _, _, _, _, h1, h2, _⟩ <;> (try unfold maxLen at *) <;> omega))
               clear ov3 iv3 ov6 iv6)
            | (go_at_call 40; (with_reducible refine HS.out.mono ?_); rintro e w7 ⟨rfl, hb7⟩))
          go_ret
          exact ⟨rfl, hB6.trans (hb7.mono hB6.size)⟩
      · obtain ⟨J, hJ⟩ : ∃ J, J = M - L := ⟨_, rfl⟩
        have hJL : (M : Int) - (L : Int) = (J : Int) := by omega
        obtain ⟨b, off, rfl, hbb, hcc⟩ := HYT.out.open_ (by omega)
        have hm1 : (y.take M)[J]? = some 165 := by
          have := hhd (fun h => h0 (by rw [hL, h]; rfl))
          rw [← hld, ← hJ, List.head?_drop] at this
          exact this
        have hL0 : ((L : Int) == 0) = false := by simpa using h0
        have mark : w.cell? ⟨b, off + J, none⟩ = some (.int .u8 165) := hcc J 165 hm1
        have MARK := Lib.hid mark
        have hJM : J < M := by omega
        clear hL hld hhd hyl hm1 mark hcc hJ
        by_cases hin : i < n
        all_goals
          go_wp2_with (first
            | (go_at_call 39; (with_reducible refine (all_any wr.heap.size A1 k1 c1 (calmOf x i) wr HO.out.reads (Nat.le_refl _) HO.out.bounds.1 HO.out.bounds.2 (by omega)).mono ?_); rintro e w2 ⟨A2, k2, c2, rfl, o2, hb2⟩
               rw [calm_scan] at o2 ⊢
               obtain rfl : 0 = k2 := o2.length
               clear o2
               have hB2 := hbr.trans (hb2.mono hws)
               have hs2 := hB2.size)
            | (go_at_call 39; (with_reducible refine (all_any w.heap.size (some ⟨b, off, none⟩) M d (y.take M) w2 (HYT.out.below hB2) hs2 (by omega) (by unfold maxLen; omega) (by omega)).mono ?_); rintro e w3 ⟨A3, k3, c3, rfl, o3, hb3⟩
               rw [← HL.out]
               have hB3 := hB2.trans (hb3.mono hs2)
               have hs3 := hB3.size
               have HO3 := Lib.hid o3
               have hoc := Lib.hid ((HO.out.below hb2).below (hb3.mono (by have := hb2.size; omega)))
               clear o3)
            | (at_builtin
               refine wpList_append_b rfl (.tmp 55) (.tmp 56) rfl w3.heap.size (some ⟨w3.heap.size, 0, none⟩) 0 0 [] rfl (OwnB.made0 w3 (Nat.le_refl _)) w3.heap.size A1 k1 c1 _ rfl (hoc.out.reads.alloc (Nat.le_refl _) _) (by omega) (by simp) ?_
               intro A4 k4 c4 w4 hk4 hk4' o4 hg4 _
               have hb4 : Below w3.heap.size w3 w4 := ((Below.refl _ _).alloc (Nat.le_refl _) _).grown hg4 (by simp) (by simp [Value.ownBlock])
               have hs4 := hb4.size
               have o4' : OwnB w4 w3.heap.size A4 k4 c4 (calmOf x i) := o4
               clear hg4 o4)
            | (at_builtin
               refine wpList_append_b rfl (.tmp 57) (.tmp 58) rfl w3.heap.size A4 k4 c4 _ rfl o4' w.heap.size (some ⟨b, off, none⟩) M d (y.take M) rfl ((HYT.out.below hB3).below (hb4.mono hs3)) (by omega) (by omega) ?_
               intro A5 k5 c5 w5 hk5 hk5' o5 hg5 _
               have hb5 : Below w3.heap.size w3 w5 := hb4.grown hg5 (by omega) (fun g hg => (o4'.lt g hg).1)
               have hs5 := hb5.size
               clear hg5)
            | (go_at_call 39; (with_reducible refine (all_any w5.heap.size A5 k5 c5 (calmOf x i ++ y.take M) w5 o5.reads (Nat.le_refl _) o5.bounds.1 o5.bounds.2 (by omega)).mono ?_); rintro e w6 ⟨A6, k6, c6, rfl, o6, hb6⟩
               rw [scan_noise _ _ (calmOf_calm x i), ← HL.out]
               rw [scan_noise _ _ (calmOf_calm x i)] at o6
               have hb6' := hb5.trans (hb6.mono hs5)
               have hB6 := hB3.trans (hb6'.mono hs3)
               have o3' := HO3.out.belw hb6'
               obtain rfl : k3 = k6 := o3'.length.symm.trans o6.length
               obtain ⟨vs3, ov3, iv3⟩ := o3'
               obtain ⟨vs6, ov6, iv6⟩ := o6
               have HS := Lib.hid (same07_refl w6 A3 A6 k3 c3 c6 _ _ _ _ _ _ _ (Reads.of_own ov3) iv3 (Reads.of_own ov6) iv6 (by rcases ov3.2 with ⟨_, h⟩ | ⟨_, _, _, _, _, _, h1, h2, _⟩ <;> (try unfold maxLen at *) <;> omega))
               clear ov3 iv3 ov6 iv6)
            | (go_at_call 40; (with_reducible refine HS.out.mono ?_); rintro e w7 ⟨rfl, hb7⟩
               have hB7 := hB6.trans (hb7.mono hB6.size)
               have f7 := cell_below hB7 MARK.out hbb))
          go_ret
          exact ⟨rfl, hB7⟩
end Go.Proofs.Ytmjoikjkmdbleaa
