/- The walk of the law FrameBursts. -/
import Derived.Test.YtmjoikjkmdbleaaCrcG
import Derived.Test.YtmjoikjkmdbleaaFrJ
import Derived.Test.YtmjoikjkmdbleaaFrK
namespace Go.Proofs.Ytmjoikjkmdbleaa
open Go.RowKit Crc Fr
set_option linter.unusedVariables false

theorem grownBy_setCell (w : World) (p : Addr) (u : Value) : w.grownBy (w.setCell p u) (some p.block) :=
  ⟨rfl, rfl, rfl, by simp [World.setCell], fun k _ hne => Below.heap_setCell w p u k (fun e => hne (by rw [e]))⟩
theorem OwnB.setNe {w : World} {base k c g : Nat} {l : List UInt8} (h : OwnB w base (some ⟨g, 0, none⟩) k c l) {p : Addr} (hp : g ≠ p.block) (u : Value) : OwnB (w.setCell p u) base (some ⟨g, 0, none⟩) k c l :=
  h.grown (grownBy_setCell w p u) (fun g' e h2 => by injection e with e; injection e with e; injection h2 with h2; omega)

theorem and_127 (s : BitVec 16) : bits BinOp.and IntKind.u16 (s.toNat : Int) 127 = ((s.toNat % 128 : Nat) : Int) := by
  have h := bits_and_u16 s 127#16
  rw [show ((127#16).toNat : Int) = 127 from rfl] at h
  rw [h, BitVec.toNat_and]
  have : s.toNat &&& (127#16).toNat = s.toNat % 128 := Nat.and_two_pow_sub_one_eq_mod s.toNat 7
  rw [this]

/-- A frame with the first bits of a burst turned. -/
def turned (f : Nat → Bool) (x : List UInt8) (K i : Nat) : List UInt8 := (put x).take 3 ++ burst f ((put x).drop 3) K i
theorem turned_length (f : Nat → Bool) (x : List UInt8) (K i : Nat) : (turned f x K i).length = x.length + 5 := by
  simp [turned, length_burst, put_length]; omega
theorem turned_zero (f : Nat → Bool) (x : List UInt8) (K : Nat) : turned f x K 0 = put x := by simp [turned, burst]
theorem turned_no (f : Nat → Bool) (x : List UInt8) (K i : Nat) (h : f i = false) : turned f x K (i + 1) = turned f x K i := by
  unfold turned; rw [burst, if_neg (by rw [h]; simp)]
theorem turned_yes (f : Nat → Bool) (x : List UInt8) (K i : Nat) (h : f i = true) (hk : K + i < 8 * (x.length + 2)) (u : UInt8) (hu : (turned f x K i)[3 + (K + i) / 8]? = some u) :
    turned f x K (i + 1) = (turned f x K i).set (3 + (K + i) / 8) (u ^^^ (128 >>> UInt8.ofNat ((K + i) % 8))) := by
  have h3 : ((put x).take 3).length = 3 := by simp [put_length]
  have hl : ((put x).drop 3).length = x.length + 2 := by rw [List.length_drop, put_length]; omega
  unfold turned at hu ⊢
  rw [List.getElem?_append_right (by omega), h3, Nat.add_sub_cancel_left] at hu
  rw [burst, if_pos ⟨by rw [hl]; exact hk, h⟩, turn_eq _ _ u hu, List.set_append_right _ _ (by omega), h3, Nat.add_sub_cancel_left]
theorem turned_stop (f : Nat → Bool) (x : List UInt8) (K i : Nat) (h : 8 * (x.length + 2) ≤ K + i) (hi : i ≤ 16) : turned f x K 16 = turned f x K i := by
  have hl : ((put x).drop 3).length = x.length + 2 := by rw [List.length_drop, put_length]; omega
  have := burst_stop f ((put x).drop 3) K i (by rw [hl]; exact h) (16 - i)
  rw [show i + (16 - i) = 16 by omega] at this
  unfold turned; rw [this]

theorem turn_place (a W : Int) (h : 0 < W) (hW : W ≤ 1000) : ∃ K : Nat, (wrap64 (a.tmod W + W)).tmod W = (K : Int) ∧ (K : Int) < W := by
  have ha1 : -W < a.tmod W := Int.lt_tmod_of_pos a h
  have ha2 : a.tmod W < W := Int.tmod_lt_of_pos a h
  have e : wrap64 (a.tmod W + W) = a.tmod W + W := IntWalk.wrap64_in _ ⟨by omega, by omega⟩
  rw [e, Int.tmod_eq_emod_of_nonneg (by omega)]
  refine ⟨((a.tmod W + W) % W).toNat, (Int.toNat_of_nonneg (Int.emod_nonneg _ (by omega))).symm, ?_⟩
  have h1 := Int.emod_lt_of_pos (a.tmod W + W) h
  have h2 := Int.emod_nonneg (a.tmod W + W) (show W ≠ 0 by omega)
  omega

theorem and_127' {s : BitVec 16} {r : Nat} (h : bits BinOp.and IntKind.u16 (s.toNat : Int) 127 = (r : Int)) (_w : World) : bits BinOp.and IntKind.u16 (s.toNat : Int) 127 = (r : Int) := h
theorem stopHere {P : Prop} (h : Hid P) : P := h
theorem size_setCell (w : World) (p : Addr) (u : Value) : (w.setCell p u).heap.size = w.heap.size := by simp [World.setCell]
theorem b2 {r : Nat} (h : r < 128) : Value.int .u8 (2 + (r : Int)) = bv (UInt8.ofNat (2 + r)) := by
  unfold bv; congr 1; simp; omega
theorem b33 {r : Nat} (h : r < 128) : Value.int .u8 (33 + (r : Int)) = bv (UInt8.ofNat (33 + r)) := by
  unfold bv; congr 1; simp; omega
theorem odd_next (x : List UInt8) (r : Nat) (hr : r < 128) (hx : x.length ≤ 32) : Fr.next ((put x).set 1 (UInt8.ofNat (2 + r))) = ⟨3, 1, 10, []⟩ := by
  have hne : UInt8.ofNat (2 + r) ≠ 1 := by
    intro h
    have := congrArg UInt8.toNat h
    simp at this
    omega
  rw [show (put x).set 1 (UInt8.ofNat (2 + r)) = 165 :: UInt8.ofNat (2 + r) :: UInt8.ofNat x.length :: (x ++ [hi (sum ([1, UInt8.ofNat x.length] ++ x)), lo (sum ([1, UInt8.ofNat x.length] ++ x))]) by simp [put]]
  simp only [Fr.next, if_true, if_neg hne]
  rfl
theorem long_next (r : Nat) (hr : r < 128) : Fr.next [165, 1, UInt8.ofNat (33 + r)] = ⟨3, 1, 11, []⟩ := by
  have h : (UInt8.ofNat (33 + r)).toNat = 33 + r := by simp; omega
  simp only [Fr.next, if_true, behind, h]
  rw [if_pos (by omega)]
  rfl

set_option maxRecDepth 100000 in
set_option maxHeartbeats 4000000 in
theorem bursts6_core (A : Option Addr) (n c : Nat) (x : List UInt8) (at_ : Int) (more : BitVec 16) (w : World) (n' : Nat) (hx : Reads w w.heap.size 1 A n' (x.map bv))
    (hf1 : ∀ w, Calls Try.prog 33 #[.slice A n c] w fun e w' => e = .returned (.slice A n' c) ∧ w = w') (hn : n' ≤ 32) :
    Calls Try.prog 12 #[.slice A n c, .int .i64 at_, .int .u16 more.toNat] w fun e w' => e = .returned (.bool true) ∧ Below w.heap.size w w' := by
  have hlx : x.length = n' := by simpa using hx.1
  have HLX := Lib.hid hlx
  have hx1 := Lib.hid hx
  have F1 := Lib.hid hf1
  obtain ⟨K, hK, hKlt⟩ := turn_place at_ (8 * ((n' : Int) + 5 - 3)) (by omega) (by omega)
  clear hx hf1 hlx
  go_enter Try.func12, Try.ntmps12
  go_wp2_with (first
    | (go_at_call 26; (with_reducible refine (shown6_any _).mono ?_); rintro e w1 ⟨rfl, hb1⟩; have hs1 := hb1.size)
    | (go_at_call 33; (with_reducible refine (F1.out _).mono ?_); rintro e w' ⟨rfl, rfl⟩)
    | (go_at_call 30; (with_reducible refine (put_any w.heap.size A n' _ x _ (hx1.out.below hb1) hs1 hn).mono ?_); rintro e w2 ⟨A2, k2, c2, rfl, o2, hb2⟩
       have hs2 := hb2.size
       have hB2 := hb1.trans (hb2.mono hs1)
       obtain rfl : k2 = n' + 5 := (by have h1 := o2.length; have h2 := HLX.out; rw [put_length] at h1; omega)
       obtain ⟨g2, u2, rfl, hg2, hg2', -, -, -⟩ := o2.get (i := 0) (by omega))
    | (at_builtin
       refine wpList_append_b rfl (.tmp 38) (.tmp 39) rfl w2.heap.size (some ⟨w2.heap.size, 0, none⟩) 0 0 [] rfl (OwnB.made0 w2 (Nat.le_refl _)) w2.heap.size _ (n' + 5) c2 (put x) rfl (o2.reads.alloc (Nat.le_refl _) _) (by omega) (by simp) ?_
       intro A3 k3 c3 w3 hk3 hk3' o3 hgr3 _
       have hb3 : Below w2.heap.size w2 w3 := ((Below.refl _ _).alloc (Nat.le_refl _) _).grown hgr3 (by simp) (by simp [Value.ownBlock])
       have hs3 := hb3.size
       obtain rfl : k3 = n' + 5 := (by omega)
       obtain ⟨g3, u3, rfl, hg3, hg3', -, -, -⟩ := o3.get (i := 0) (by omega)
       have p3 := o2.below hb3
       have hB3 := hB2.trans (hb3.mono (by omega))
       clear hgr3))
  have hg23 : g2 ≠ g3 := by omega
  have o2 : OwnB w3 w.heap.size (some ⟨g2, 0, none⟩) (n' + 5) c2 (put x) := ⟨p3.1, p3.2.imp id (fun ⟨g, cap, cur, h1, h2, h3⟩ => ⟨g, cap, cur, h1, Nat.le_trans hs1 h2, h3⟩)⟩
  have o3' : OwnB w3 w.heap.size (some ⟨g3, 0, none⟩) (n' + 5) c3 (put x) := ⟨o3.1, o3.2.imp id (fun ⟨g, cap, cur, h1, h2, h3⟩ => ⟨g, cap, cur, h1, Nat.le_trans (by omega) h2, h3⟩)⟩
  clear p3 o3 hb1 hb2 hb3 hB2 hx1 F1
  clear hK
  go_loopw [14] (fun i wr => ∃ k : Nat, k ≤ 16 ∧ i = .int .i64 k ∧ OwnB wr w.heap.size (some ⟨g2, 0, none⟩) (n' + 5) c2 (turned (bitf more) x K k) ∧ OwnB wr w.heap.size (some ⟨g3, 0, none⟩) (n' + 5) c3 (put x) ∧ Below w.heap.size w wr) (fun i _ => 16 - (intOf i).toNat)
  case atStart => exact ⟨0, by omega, rfl, by rw [turned_zero]; exact o2, o3', hB3⟩
  case round =>
    obtain ⟨k, hk, rfl, ho, hv, hbr⟩ := hrel
    by_cases hlt : k < 16 ∧ (K : Int) + k < 8 * ((n' : Int) + 5 - 3)
    · obtain ⟨hlt, hlt2⟩ := hlt
      have hbit : (bits BinOp.and IntKind.u16 (bits BinOp.or IntKind.u16 (more.toNat : Int) 32768 / 2 ^ (15 - k)) 1 == 1) = bitf more k := rfl
      cases hbf : bitf more k with
      | false =>
        rw [hbf] at hbit
        have H1 := Lib.hid hbf
        clear hbf
        go_wp2_with fail
        go_roundw
        case rel => exact ⟨k + 1, by omega, by go_num, by rw [turned_no _ _ _ _ H1.out]; exact ho, hv, hbr⟩
        case measure => simp [intOf]; omega
      | true =>
        rw [hbf] at hbit
        have H1 := Lib.hid hbf
        clear hbf
        obtain ⟨g, u, hge, hg, hg', hu, hcell, hfz⟩ := ho.get (i := 3 + (K + k) / 8) (by omega)
        obtain rfl : g2 = g := by injection hge with h; injection h
        have HU := Lib.hid hu
        clear hu hge
        go_wp2_with fail
        go_region
        go_wp2_with fail
        go_roundw
        case rel =>
          refine ⟨k + 1, by omega, by go_num, ?_, (hv.setNe (p := ⟨g2, 3 + (K + k) / 8, none⟩) (by simpa using Ne.symm hg23) _).drew, (hbr.setCell (p := ⟨g2, 3 + (K + k) / 8, none⟩) hg _).drew⟩
          rw [sh128 _ (by omega), bits_xor_u8, turned_yes _ _ _ _ H1.out (by rw [HLX.out]; omega) u HU.out]
          exact OwnB.drew (ho.set_ (by omega) _ rfl)
        case measure => simp [intOf]; omega
    · have ht : turned (bitf more) x K 16 = turned (bitf more) x K k := by
        rcases Nat.lt_or_ge k 16 with h | h
        · exact turned_stop _ _ _ _ (by rw [HLX.out]; omega) hk
        · obtain rfl : k = 16 := by omega
          rfl
      rw [← ht] at ho
      clear ht
      have hrs := hbr.size
      have NT := Lib.hid (@next_named _ 3 1 12 [] (next_burst (bitf more) (bitf_zero more) x (by rw [HLX.out]; omega) K (by rw [HLX.out]; omega)))
      have hand := and_127 more
      have hr : more.toNat % 128 < 128 := by omega
      generalize more.toNat % 128 = r at *
      have NO := Lib.hid (@next_named _ 3 1 10 [] (odd_next x r hr (by rw [HLX.out]; omega)))
      have NL := Lib.hid (@next_named _ 3 1 11 [] (long_next r hr))
      have HO := Lib.hid ho
      have HV := Lib.hid hv
      have bd2 := ho.bounds
      have bd3 := hv.bounds
      clear ho hv
      by_cases hlt2 : k < 16
      · have hge : ¬ ((K : Int) + k < 8 * ((n' : Int) + 5 - 3)) := fun h => hlt ⟨hlt2, h⟩
        clear hlt
        go_wp2_with (first
          | (go_at_call 28; (with_reducible refine (NT.out wr.heap.size _ (n' + 5) c2 wr HO.out.reads (Nat.le_refl _) bd2.1 bd2.2).mono ?_); rintro e w4 ⟨A4, k4, c4, rfl, o4, hb4⟩
             have hs4 := hb4.size
             obtain rfl : 0 = k4 := o4.length
             clear o4)
          | (at_builtin
             (refine wpList_append_b rfl (.tmp 94) (.tmp 95) rfl (w4.heap.size + 1) (some ⟨w4.heap.size + 1, 0, none⟩) 0 0 [] (by rfl) (by simpa using OwnB.made0 (w4.alloc (.cells #[.int .i64 3, .int .i64 1, .int .i64 12, .slice A4 0 c4] 37)) (by simp)) w4.heap.size _ (n' + 5) c3 (put x) rfl (((HV.out.below (hb4.mono (by omega))).reads.alloc (Nat.le_refl _) _).alloc (by simp) _) (by omega) (by simp) ?_)
             intro A5 k5 c5 w5 hk5 hk5' o5 hgr5 _
             have hb5 : Below w4.heap.size w4 w5 := (((Below.refl _ _).alloc (Nat.le_refl _) _).alloc (by simp) _).grown hgr5 (by simp; omega) (by simp [Value.ownBlock])
             have hbA : Below (w4.heap.size + 1) (w4.alloc (.cells #[.int .i64 3, .int .i64 1, .int .i64 12, .slice A4 0 c4] 37)) w5 := ((Below.refl _ _).alloc (by simp) _).grown hgr5 (by simp) (by simp [Value.ownBlock])
             have hs5 := hb5.size
             obtain rfl : k5 = n' + 5 := (by omega)
             obtain ⟨g5, u5, rfl, hg5, hg5', -, -, -⟩ := o5.get (i := 0) (by omega)
             have q5 := o5.get' (i := 1) (by omega) (u := 1) rfl
             have q51 : w5.cell? ⟨g5, 1, none⟩ = some (.int .u8 1) := q5.1
             have q52 := q5.2
             clear hgr5 q5)
          | (go_at_call 28; (with_reducible refine (NO.out (w5.setCell ⟨g5, 1, none⟩ (.int .u8 (2 + (r : Int)))).heap.size _ (n' + 5) c5 _ (by rw [b2 hr]; exact OwnB.reads (OwnB.set_ o5 (by omega) _ rfl)) (Nat.le_refl _) o5.bounds.1 o5.bounds.2).mono ?_); rintro e w6 ⟨A6, k6, c6, rfl, o6, hb6⟩
             obtain rfl : 0 = k6 := o6.length
             clear o6
             rw [size_setCell] at hb6
             have hs6 := hb6.size
             rw [size_setCell] at hs6
             have hbB := hbA.setCell (p := ⟨g5, 1, none⟩) hg5 (.int .u8 (2 + (r : Int)))
             have hb6' := hbB.trans (hb6.mono (by omega))
             have hv6 := ((((HV.out.below hb4).below hb5)).setNe (p := ⟨g5, 1, none⟩) (by have := HV.out.ltg.2; simp; omega) (.int .u8 (2 + (r : Int)))).below (by rw [size_setCell]; exact hb6)
             have B6 : Below w.heap.size w w6 := (((hbr.trans (hb4.mono (by omega))).trans (hb5.mono (by omega))).setCell (p := ⟨g5, 1, none⟩) (by simp; omega) (.int .u8 (2 + (r : Int)))).trans (hb6.mono (by omega))
             have d0 := fun o => cell_alloc (cell_below hb6' (cell_new w4 _ 37 _ 0 _ rfl) (by simp)) o
             have d1 := fun o => cell_alloc (cell_below hb6' (cell_new w4 _ 37 _ 1 _ rfl) (by simp)) o
             have d2 := fun o => cell_alloc (cell_below hb6' (cell_new w4 _ 37 _ 2 _ rfl) (by simp)) o
             have d3 := fun o => cell_alloc (cell_below hb6' (cell_new w4 _ 37 _ 3 _ rfl) (by simp)) o
             have HV6 := Lib.hid hv6
             have HD0 := Lib.hid d0
             have HD1 := Lib.hid d1
             have HD2 := Lib.hid d2
             have HD3 := Lib.hid d3
             have HB6 := Lib.hid B6
             have sl := fun w => slice_h (some ⟨g3, 0, none⟩) (n' + 5) c3 3 w 3 rfl (by omega) (by omega)
             clear hv6 d0 d1 d2 d3 B6 hbB hb6' hbA q51 q52 o5 hb6)
          | (at_builtin
             (refine wpList_append_b rfl (.tmp 109) (.tmp 111) rfl (w6.heap.size + 1) (some ⟨w6.heap.size + 1, 0, none⟩) 0 0 [] (by rfl) (by simpa using OwnB.made0 (w6.alloc (.cells #[.int .i64 3, .int .i64 1, .int .i64 10, .slice A6 0 c6] 37)) (by simp)) w6.heap.size _ 3 c3 ((put x).take 3) rfl (((HV6.out.reads.alloc (Nat.le_refl _) _).alloc (by simp) _).bytesTake (by omega)) (by omega) (by simp) ?_)
             intro A7 k7 c7 w7 hk7 hk7' o7 hgr7 _
             have hb7 : Below w6.heap.size w6 w7 := (((Below.refl _ _).alloc (Nat.le_refl _) _).alloc (by simp) _).grown hgr7 (by simp; omega) (by simp [Value.ownBlock])
             have hbC : Below (w6.heap.size + 1) (w6.alloc (.cells #[.int .i64 3, .int .i64 1, .int .i64 10, .slice A6 0 c6] 37)) w7 := ((Below.refl _ _).alloc (by simp) _).grown hgr7 (by simp) (by simp [Value.ownBlock])
             have hs7 := hb7.size
             obtain rfl : k7 = 3 := (by omega)
             obtain ⟨g7, u7, rfl, hg7, hg7', -, -, -⟩ := o7.get (i := 0) (by omega)
             have q7 := (o7.get' (i := 2) (by omega) (u := UInt8.ofNat x.length) rfl).2
             have q71 := (o7.get' (i := 2) (by omega) (u := UInt8.ofNat x.length) rfl).1
             clear hgr7)
          | (go_at_call 28; (with_reducible refine (NL.out (w7.setCell ⟨g7, 2, none⟩ (.int .u8 (33 + (r : Int)))).heap.size _ 3 c7 _ (by rw [b33 hr]; exact OwnB.reads (OwnB.set_ o7 (by omega) _ rfl)) (Nat.le_refl _) o7.bounds.1 o7.bounds.2).mono ?_); rintro e w8 ⟨A8, k8, c8, rfl, o8, hb8⟩
             obtain rfl : 0 = k8 := o8.length
             clear o8
             rw [size_setCell] at hb8
             have hs8 := hb8.size
             rw [size_setCell] at hs8
             have hbD := hbC.setCell (p := ⟨g7, 2, none⟩) hg7 (.int .u8 (33 + (r : Int)))
             have hb8' := hbD.trans (hb8.mono (by omega))
             have B8 := Lib.hid (((HB6.out.trans (hb7.mono (by omega))).setCell (p := ⟨g7, 2, none⟩) (by simp; omega) (.int .u8 (33 + (r : Int)))).trans (hb8.mono (by omega)))
             have e0 := fun o => cell_alloc (cell_below hb8' (HD0.out _) (by simp; omega)) o
             have e1 := fun o => cell_alloc (cell_below hb8' (HD1.out _) (by simp; omega)) o
             have e2 := fun o => cell_alloc (cell_below hb8' (HD2.out _) (by simp; omega)) o
             have e3 := fun o => cell_alloc (cell_below hb8' (HD3.out _) (by simp; omega)) o
             have f0 := fun o => cell_alloc (cell_below hb8' (cell_new w6 _ 37 _ 0 _ rfl) (by simp)) o
             have f2 := fun o => cell_alloc (cell_below hb8' (cell_new w6 _ 37 _ 2 _ rfl) (by simp)) o
             clear hb8' hbD hbC hb8 hb7 o7 q7 q71))
        go_ret
        exact ⟨rfl, B8.out.alloc (by omega) _⟩
      · clear hlt
        go_wp2_with (first
          | (go_at_call 28; (with_reducible refine (NT.out wr.heap.size _ (n' + 5) c2 wr HO.out.reads (Nat.le_refl _) bd2.1 bd2.2).mono ?_); rintro e w4 ⟨A4, k4, c4, rfl, o4, hb4⟩
             have hs4 := hb4.size
             obtain rfl : 0 = k4 := o4.length
             clear o4)
          | (at_builtin
             (refine wpList_append_b rfl (.tmp 94) (.tmp 95) rfl (w4.heap.size + 1) (some ⟨w4.heap.size + 1, 0, none⟩) 0 0 [] (by rfl) (by simpa using OwnB.made0 (w4.alloc (.cells #[.int .i64 3, .int .i64 1, .int .i64 12, .slice A4 0 c4] 37)) (by simp)) w4.heap.size _ (n' + 5) c3 (put x) rfl (((HV.out.below (hb4.mono (by omega))).reads.alloc (Nat.le_refl _) _).alloc (by simp) _) (by omega) (by simp) ?_)
             intro A5 k5 c5 w5 hk5 hk5' o5 hgr5 _
             have hb5 : Below w4.heap.size w4 w5 := (((Below.refl _ _).alloc (Nat.le_refl _) _).alloc (by simp) _).grown hgr5 (by simp; omega) (by simp [Value.ownBlock])
             have hbA : Below (w4.heap.size + 1) (w4.alloc (.cells #[.int .i64 3, .int .i64 1, .int .i64 12, .slice A4 0 c4] 37)) w5 := ((Below.refl _ _).alloc (by simp) _).grown hgr5 (by simp) (by simp [Value.ownBlock])
             have hs5 := hb5.size
             obtain rfl : k5 = n' + 5 := (by omega)
             obtain ⟨g5, u5, rfl, hg5, hg5', -, -, -⟩ := o5.get (i := 0) (by omega)
             have q5 := o5.get' (i := 1) (by omega) (u := 1) rfl
             have q51 : w5.cell? ⟨g5, 1, none⟩ = some (.int .u8 1) := q5.1
             have q52 := q5.2
             clear hgr5 q5)
          | (go_at_call 28; (with_reducible refine (NO.out (w5.setCell ⟨g5, 1, none⟩ (.int .u8 (2 + (r : Int)))).heap.size _ (n' + 5) c5 _ (by rw [b2 hr]; exact OwnB.reads (OwnB.set_ o5 (by omega) _ rfl)) (Nat.le_refl _) o5.bounds.1 o5.bounds.2).mono ?_); rintro e w6 ⟨A6, k6, c6, rfl, o6, hb6⟩
             obtain rfl : 0 = k6 := o6.length
             clear o6
             rw [size_setCell] at hb6
             have hs6 := hb6.size
             rw [size_setCell] at hs6
             have hbB := hbA.setCell (p := ⟨g5, 1, none⟩) hg5 (.int .u8 (2 + (r : Int)))
             have hb6' := hbB.trans (hb6.mono (by omega))
             have hv6 := ((((HV.out.below hb4).below hb5)).setNe (p := ⟨g5, 1, none⟩) (by have := HV.out.ltg.2; simp; omega) (.int .u8 (2 + (r : Int)))).below (by rw [size_setCell]; exact hb6)
             have B6 : Below w.heap.size w w6 := (((hbr.trans (hb4.mono (by omega))).trans (hb5.mono (by omega))).setCell (p := ⟨g5, 1, none⟩) (by simp; omega) (.int .u8 (2 + (r : Int)))).trans (hb6.mono (by omega))
             have d0 := fun o => cell_alloc (cell_below hb6' (cell_new w4 _ 37 _ 0 _ rfl) (by simp)) o
             have d1 := fun o => cell_alloc (cell_below hb6' (cell_new w4 _ 37 _ 1 _ rfl) (by simp)) o
             have d2 := fun o => cell_alloc (cell_below hb6' (cell_new w4 _ 37 _ 2 _ rfl) (by simp)) o
             have d3 := fun o => cell_alloc (cell_below hb6' (cell_new w4 _ 37 _ 3 _ rfl) (by simp)) o
             have HV6 := Lib.hid hv6
             have HD0 := Lib.hid d0
             have HD1 := Lib.hid d1
             have HD2 := Lib.hid d2
             have HD3 := Lib.hid d3
             have HB6 := Lib.hid B6
             have sl := fun w => slice_h (some ⟨g3, 0, none⟩) (n' + 5) c3 3 w 3 rfl (by omega) (by omega)
             clear hv6 d0 d1 d2 d3 B6 hbB hb6' hbA q51 q52 o5 hb6)
          | (at_builtin
             (refine wpList_append_b rfl (.tmp 109) (.tmp 111) rfl (w6.heap.size + 1) (some ⟨w6.heap.size + 1, 0, none⟩) 0 0 [] (by rfl) (by simpa using OwnB.made0 (w6.alloc (.cells #[.int .i64 3, .int .i64 1, .int .i64 10, .slice A6 0 c6] 37)) (by simp)) w6.heap.size _ 3 c3 ((put x).take 3) rfl (((HV6.out.reads.alloc (Nat.le_refl _) _).alloc (by simp) _).bytesTake (by omega)) (by omega) (by simp) ?_)
             intro A7 k7 c7 w7 hk7 hk7' o7 hgr7 _
             have hb7 : Below w6.heap.size w6 w7 := (((Below.refl _ _).alloc (Nat.le_refl _) _).alloc (by simp) _).grown hgr7 (by simp; omega) (by simp [Value.ownBlock])
             have hbC : Below (w6.heap.size + 1) (w6.alloc (.cells #[.int .i64 3, .int .i64 1, .int .i64 10, .slice A6 0 c6] 37)) w7 := ((Below.refl _ _).alloc (by simp) _).grown hgr7 (by simp) (by simp [Value.ownBlock])
             have hs7 := hb7.size
             obtain rfl : k7 = 3 := (by omega)
             obtain ⟨g7, u7, rfl, hg7, hg7', -, -, -⟩ := o7.get (i := 0) (by omega)
             have q7 := (o7.get' (i := 2) (by omega) (u := UInt8.ofNat x.length) rfl).2
             have q71 := (o7.get' (i := 2) (by omega) (u := UInt8.ofNat x.length) rfl).1
             clear hgr7)
          | (go_at_call 28; (with_reducible refine (NL.out (w7.setCell ⟨g7, 2, none⟩ (.int .u8 (33 + (r : Int)))).heap.size _ 3 c7 _ (by rw [b33 hr]; exact OwnB.reads (OwnB.set_ o7 (by omega) _ rfl)) (Nat.le_refl _) o7.bounds.1 o7.bounds.2).mono ?_); rintro e w8 ⟨A8, k8, c8, rfl, o8, hb8⟩
             obtain rfl : 0 = k8 := o8.length
             clear o8
             rw [size_setCell] at hb8
             have hs8 := hb8.size
             rw [size_setCell] at hs8
             have hbD := hbC.setCell (p := ⟨g7, 2, none⟩) hg7 (.int .u8 (33 + (r : Int)))
             have hb8' := hbD.trans (hb8.mono (by omega))
             have B8 := Lib.hid (((HB6.out.trans (hb7.mono (by omega))).setCell (p := ⟨g7, 2, none⟩) (by simp; omega) (.int .u8 (33 + (r : Int)))).trans (hb8.mono (by omega)))
             have e0 := fun o => cell_alloc (cell_below hb8' (HD0.out _) (by simp; omega)) o
             have e1 := fun o => cell_alloc (cell_below hb8' (HD1.out _) (by simp; omega)) o
             have e2 := fun o => cell_alloc (cell_below hb8' (HD2.out _) (by simp; omega)) o
             have e3 := fun o => cell_alloc (cell_below hb8' (HD3.out _) (by simp; omega)) o
             have f0 := fun o => cell_alloc (cell_below hb8' (cell_new w6 _ 37 _ 0 _ rfl) (by simp)) o
             have f2 := fun o => cell_alloc (cell_below hb8' (cell_new w6 _ 37 _ 2 _ rfl) (by simp)) o
             clear hb8' hbD hbC hb8 hb7 o7 q7 q71))
        go_ret
        exact ⟨rfl, B8.out.alloc (by omega) _⟩

theorem bursts6_walk (A : Option Addr) (n c : Nat) (x : List UInt8) (at_ : Int) (more : BitVec 16) (w : World) (hx : Reads w w.heap.size 1 A n (x.map bv)) (hn : n ≤ c) (hc : c ≤ maxLen) :
    Calls Try.prog 12 #[.slice A n c, .int .i64 at_, .int .u16 more.toNat] w fun e w' => e = .returned (.bool true) ∧ Below w.heap.size w w' :=
  bursts6_core A n c _ at_ more w _ (hx.bytesTake (Nat.min_le_left n 32)) (fun w => body6_any A n c w hn hc) (Nat.min_le_right _ _)
end Go.Proofs.Ytmjoikjkmdbleaa
