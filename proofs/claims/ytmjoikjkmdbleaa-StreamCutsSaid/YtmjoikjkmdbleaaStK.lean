/- The walk of the law StreamAgain. -/
import Derived.Test.YtmjoikjkmdbleaaStI
namespace Go.Proofs.Ytmjoikjkmdbleaa
open Go.RowKit Crc Fr St
set_option linter.unusedVariables false

theorem Strm.drewN {w : World} {base g : Nat} {rest : List UInt8} (h : Strm w base g rest) (k : Nat) : Strm (w.drewN k) base g rest := h
theorem rep_snoc (a : List UInt8) (j : Nat) (c : UInt8) : a ++ List.replicate (j + 1) c = (a ++ List.replicate j c) ++ [c] := by
  rw [List.append_assoc, List.replicate_succ']
theorem scan_put (b : List UInt8) (h : b.length ≤ 32) : scan ([] ++ put b) = ([(0, b)], []) := by
  have := scan_frame b [] h
  rw [List.append_nil, scan_nil] at this
  exact this

theorem Strm.rest0 {w : World} {base g : Nat} (h : Strm w base g []) : Calls Try.prog 41 #[.pointer (some ⟨g, 0, none⟩)] w fun e w' => e = .returned (.int .i64 0) ∧ w = w' := h.restN rfl

set_option maxHeartbeats 2000000 in
theorem again_walk (A Bm : Option Addr) (n m c d : Nat) (ls : List (List UInt8)) (vs : List Value) (y : List UInt8) (x : UInt8) (w : World) (hx : Reads w w.heap.size 1 A n vs) (hs : Sls w w.heap.size ls vs) (hy : Reads w w.heap.size 1 Bm m (y.map bv))
    (hn : n ≤ c) (hc : c ≤ maxLen) (hm : m ≤ d) (hd : d ≤ maxLen) :
    Calls Try.prog 16 #[.slice A n c, .slice Bm m d, .int .u8 x.toNat] w fun e w' => e = .returned (.bool true) ∧ Below w.heap.size w w' := by
  have hpl := fewOf_length ls
  have hpe := fewOf_each ls
  have hnm : n ≤ maxLen := by omega
  have HX := Lib.hid hx
  have HS := Lib.hid hs
  have HY := Lib.hid hy
  have HNM := Lib.hid hnm
  unfold maxLen at hc hd
  clear hx hs hy hnm
  go_enter Try.func16, Try.ntmps16
  go_wp2_with (first
    | (go_at_call 34; (with_reducible refine (shown07_any _).mono ?_); rintro e w1 ⟨rfl, hb1⟩; have hs1 := hb1.size)
    | (go_at_call 35; (with_reducible refine (few7_any w.heap.size A n c ls vs w1 (HX.out.below hb1) (HS.out.below hb1) hs1 HNM.out).mono ?_); rintro e w2 ⟨Ap, kp, cp, rfl, op, hb2⟩
       have hs2 := hb2.size
       have hB2 := hb1.trans (hb2.mono hs1)
       have hkp := op.length
       obtain ⟨vp, hrp, hsp⟩ := op.reads
       have HRP := Lib.hid hrp
       have HSP := Lib.hid hsp
       clear op hrp hsp)
    | (go_at_call 37; (with_reducible refine (new_any _).mono ?_); rintro e w' ⟨rfl, rfl⟩))
  generalize hpc : fewOf ls 20 = pcs at *
  clear hpc
  have HKP := Lib.hid hkp
  have HPL := Lib.hid hpl
  have HPE := Lib.hid hpe
  have hkp20 : kp ≤ 20 := by omega
  clear hkp hpl hpe
  go_loopw [10] (fun u wr => ∃ i : Nat, i ≤ kp ∧ u = .int .i64 i ∧ Below w2.heap.size w2 wr ∧ w2.heap.size + 1 ≤ wr.heap.size ∧ Strm wr (w2.heap.size + 1) w2.heap.size (scan (pcs.take i).flatten).2) (fun u _ => kp - (intOf u).toNat)
  case atStart =>
    refine ⟨0, by omega, rfl, (Below.refl _ _).alloc (Nat.le_refl _) _, by simp, ?_⟩
    rw [List.take_zero, List.flatten_nil, scan_nil]
    exact Strm.new w2 _
  case round =>
    obtain ⟨i, hi, rfl, hbr, hsz, s1⟩ := hrel
    have hws := hbr.size
    have S1 := Lib.hid s1
    clear s1
    by_cases hlt : i < kp
    · obtain ⟨l, hl⟩ : ∃ l, pcs[i]? = some l := ⟨pcs[i]'(by rw [HKP.out]; exact hlt), List.getElem?_eq_getElem _⟩
      obtain ⟨X, kx, cx, hx1, hx2, hx3, hx4⟩ := HSP.out.2 i l hl
      obtain ⟨b, off, rfl, hbb, hcc⟩ := HRP.out.open1 (by omega)
      have f1 : wr.cell? ⟨b, off + i, none⟩ = some (.slice X kx cx) := cell_below hbr (hcc i _ hx1) hbb
      have hkx : kx ≤ 100 := by have h1 := HPE.out l (List.mem_of_getElem? hl); have h2 := hx4.1; simp at h2; omega
      have HX4 := Lib.hid (hx4.below (hbr.mono (by omega)))
      have hsc : scan ((scan (pcs.take i).flatten).2 ++ l) = ((scan ((scan (pcs.take i).flatten).2 ++ l)).1, (scan (pcs.take (i + 1)).flatten).2) := by
        rw [joined_snoc _ _ _ hl, ← scan_go]
      have HC := Lib.hid (S1.out.takeN w.heap.size X kx cx l HX4.out (by omega) (by omega) (left_short _) hsc)
      clear hl hx1 hx4 hcc hsc
      go_wp2_with (go_at_call 38; (with_reducible refine HC.out.mono ?_); rintro e w3 ⟨A3, k3, c3, rfl, -, s3, hg3⟩)
      go_roundw
      case rel => exact ⟨i + 1, by omega, by go_num, below_grownS hbr hg3 hws (Nat.le_refl _), by have := hg3.size; omega, s3.mono hsz⟩
      case measure => simp [intOf]; omega
    · have htk : (pcs.take i).flatten = pcs.flatten := by rw [List.take_of_length_le (by rw [HKP.out]; omega)]
      have s1 := S1.out
      rw [htk] at s1
      clear S1 htk
      have S1 := Lib.hid s1
      clear s1
      have hbu := bne_u8 x 165 (by omega)
      by_cases h165 : x = 165
      · have hb0 : ((x.toNat : Int) == 165) = true := by rw [h165]; rfl
        clear hbu h165
        go_wp2
        go_loopw [11] (fun u wr => ∃ j : Nat, j ≤ 36 ∧ u = .int .i64 j ∧ Below w2.heap.size w2 wr ∧ w2.heap.size + 1 ≤ wr.heap.size ∧ Strm wr (w2.heap.size + 1) w2.heap.size (scan (pcs.flatten ++ List.replicate j 0)).2) (fun u _ => 36 - (intOf u).toNat)
        case atStart => exact ⟨0, by omega, rfl, hbr, hsz, by simpa using S1.out⟩
        case round =>
          obtain ⟨j, hj, rfl, hbr, hsz, s1⟩ := hrel
          have hws := hbr.size
          have S1 := Lib.hid s1
          clear s1
          by_cases hlt : j < 36
          · have hsc : scan ((scan (pcs.flatten ++ List.replicate j 0)).2 ++ [0]) = ((scan ((scan (pcs.flatten ++ List.replicate j 0)).2 ++ [0])).1, (scan (pcs.flatten ++ List.replicate (j + 1) 0)).2) := by
              rw [rep_snoc, ← scan_go (pcs.flatten ++ List.replicate j 0) [0]]
            have HC := Lib.hid ((S1.out.belw ((Below.refl _ _).alloc (Nat.le_refl _) (.cells #[(.int .u8 0)] 5))).takeN (wr.heap.size + 1) (some ⟨wr.heap.size, 0, none⟩) 1 1 [0] (reads_new_b wr [0] #[(.int .u8 0)] 5 (0, 0) 1 rfl rfl) (by simp) (by omega) (left_short _) hsc)
            clear hsc
            go_wp2_with (go_at_call 38; (with_reducible refine HC.out.mono ?_); rintro e w3 ⟨A3, k3, c3, rfl, -, s3, hg3⟩)
            go_roundw
            case rel => exact ⟨j + 1, by omega, by go_num, below_grownS (hbr.alloc hws _) hg3 (by simp; omega) (Nat.le_refl _), by have := hg3.size; simp at this; omega, s3.mono (by simp; omega)⟩
            case measure => simp [intOf]; omega
          · obtain rfl : j = 36 := by omega
            have s1 := S1.out
            rw [left_calm pcs.flatten 0 (by decide)] at s1
            clear S1 hlt
            have S1 := Lib.hid s1
            clear s1
            obtain ⟨M, hMm, hM2, hmin⟩ : ∃ M : Nat, M ≤ m ∧ M ≤ 32 ∧ (if (32 : Int) < (m : Int) then (32 : Int) else (m : Int)) = (M : Int) := by
              by_cases h : m ≤ 32
              · exact ⟨m, by omega, h, by rw [if_neg (by omega)]⟩
              · exact ⟨32, by omega, by omega, by rw [if_pos (by omega)]; rfl⟩
            have HYT := Lib.hid (HY.out.bytesTake hMm)
            have hyl : (y.take M).length = M := by have := HYT.out.1; simpa using this
            generalize y.take M = own at HYT hyl
            have HSP := Lib.hid (scan_put own (by omega))
            have hpl := put_length own
            rw [hyl] at hpl
            have HPL := Lib.hid hpl
            clear hyl hpl
            go_wp2_with (first
              | (go_at_call 41; (with_reducible refine S1.out.rest0.mono ?_); rintro e w' ⟨rfl, rfl⟩)
              | (go_at_call 31; (with_reducible refine (rput_any w.heap.size Bm M d own wr ((HYT.out.below hB2).below (hbr.mono (by omega))) (by omega) hM2).mono ?_); rintro e w3 ⟨Af, kf, cf, rfl, of, hb3⟩
                 have hs3 := hb3.size
                 have hB3 : Below w2.heap.size w2 w3 := hbr.trans (hb3.mono hws)
                 have hkf := of.length
                 rw [HPL.out] at hkf
                 have hkf2 : kf ≤ 37 := (by omega)
                 have HC4 := Lib.hid ((S1.out.belw hb3).takeN w3.heap.size Af kf cf (put own) of.reads (Nat.le_refl _) (by omega) (by simp) HSP.out)
                 clear hkf of)
              | (go_at_call 38; (with_reducible refine HC4.out.mono ?_); rintro e w4 ⟨A4, k4, c4, rfl, o4, s4, hg4⟩
                 have hB4 : Below w2.heap.size w2 w4 := below_grownS hB3 hg4 (by omega) (by omega)
                 have S4 := Lib.hid s4
                 obtain rfl : 1 = k4 := o4.length
                 obtain ⟨v4, ov4, iv4⟩ := o4
                 obtain ⟨q, X4, kx4, cx4, r, bd⟩ := iv4.get (i := 0) rfl
                 obtain ⟨b4, off4, rfl, -, hcc4⟩ := (Reads.of_own ov4).open2 (by omega)
                 have HYW := Lib.hid ((HYT.out.below hB2).below (hB4.mono (by omega)))
                 have f0 : ∀ m, (w4.drewN m).cell? ⟨b4, off4, none⟩ = some (.int .i64 0) := fun m => hcc4 0 _ q
                 have f1 : ∀ m, (w4.drewN m).cell? ⟨b4, off4 + 1, none⟩ = some (.slice X4 kx4 cx4) := fun m => hcc4 1 _ r
                 have cv1 : ∀ m, (convert 22 9 (.slice X4 kx4 cx4)).run Try.prog (w4.drewN m) = .ok (.string ⟨own.toArray⟩) (w4.drewN m) := fun m => conv_any (bd.reads.drewN m)
                 have cv2 : ∀ m, (convert 22 9 (.slice Bm M d)).run Try.prog (w4.drewN m) = .ok (.string ⟨own.toArray⟩) (w4.drewN m) := fun m => conv_any (HYW.out.drewN m)
                 clear ov4 iv4 q r bd hcc4 s4 hg4))
            go_quiet ((go_at_call 41; exact Calls.quiet_of_same ((S4.out.drewN _).rest0.mono fun _ _ h => ⟨h.1, h.2.symm⟩)))
            go_wp2
            go_ret
            exact ⟨by simp, below_drewN (hB2.trans (hB4.mono hB2.size)) _⟩
      · have hb0 : ((x.toNat : Int) == 165) = false := by
          rw [beq_eq_false_iff_ne]; intro e; exact h165 (UInt8.toNat_inj.1 (by show x.toNat = 165; omega))
        clear hbu
        go_wp2
        go_loopw [11] (fun u wr => ∃ j : Nat, j ≤ 36 ∧ u = .int .i64 j ∧ Below w2.heap.size w2 wr ∧ w2.heap.size + 1 ≤ wr.heap.size ∧ Strm wr (w2.heap.size + 1) w2.heap.size (scan (pcs.flatten ++ List.replicate j x)).2) (fun u _ => 36 - (intOf u).toNat)
        case atStart => exact ⟨0, by omega, rfl, hbr, hsz, by simpa using S1.out⟩
        case round =>
          obtain ⟨j, hj, rfl, hbr, hsz, s1⟩ := hrel
          have hws := hbr.size
          have S1 := Lib.hid s1
          clear s1
          by_cases hlt : j < 36
          · have hsc : scan ((scan (pcs.flatten ++ List.replicate j x)).2 ++ [x]) = ((scan ((scan (pcs.flatten ++ List.replicate j x)).2 ++ [x])).1, (scan (pcs.flatten ++ List.replicate (j + 1) x)).2) := by
              rw [rep_snoc, ← scan_go (pcs.flatten ++ List.replicate j x) [x]]
            have HC := Lib.hid ((S1.out.belw ((Below.refl _ _).alloc (Nat.le_refl _) (.cells #[(.int .u8 x.toNat)] 5))).takeN (wr.heap.size + 1) (some ⟨wr.heap.size, 0, none⟩) 1 1 [x] (reads_new_b wr [x] #[(.int .u8 x.toNat)] 5 (0, 0) 1 rfl rfl) (by simp) (by omega) (left_short _) hsc)
            clear hsc
            go_wp2_with (go_at_call 38; (with_reducible refine HC.out.mono ?_); rintro e w3 ⟨A3, k3, c3, rfl, -, s3, hg3⟩)
            go_roundw
            case rel => exact ⟨j + 1, by omega, by go_num, below_grownS (hbr.alloc hws _) hg3 (by simp; omega) (Nat.le_refl _), by have := hg3.size; simp at this; omega, s3.mono (by simp; omega)⟩
            case measure => simp [intOf]; omega
          · obtain rfl : j = 36 := by omega
            have s1 := S1.out
            rw [left_calm pcs.flatten x h165] at s1
            clear S1 hlt
            have S1 := Lib.hid s1
            clear s1
            obtain ⟨M, hMm, hM2, hmin⟩ : ∃ M : Nat, M ≤ m ∧ M ≤ 32 ∧ (if (32 : Int) < (m : Int) then (32 : Int) else (m : Int)) = (M : Int) := by
              by_cases h : m ≤ 32
              · exact ⟨m, by omega, h, by rw [if_neg (by omega)]⟩
              · exact ⟨32, by omega, by omega, by rw [if_pos (by omega)]; rfl⟩
            have HYT := Lib.hid (HY.out.bytesTake hMm)
            have hyl : (y.take M).length = M := by have := HYT.out.1; simpa using this
            generalize y.take M = own at HYT hyl
            have HSP := Lib.hid (scan_put own (by omega))
            have hpl := put_length own
            rw [hyl] at hpl
            have HPL := Lib.hid hpl
            clear hyl hpl
            go_wp2_with (first
              | (go_at_call 41; (with_reducible refine S1.out.rest0.mono ?_); rintro e w' ⟨rfl, rfl⟩)
              | (go_at_call 31; (with_reducible refine (rput_any w.heap.size Bm M d own wr ((HYT.out.below hB2).below (hbr.mono (by omega))) (by omega) hM2).mono ?_); rintro e w3 ⟨Af, kf, cf, rfl, of, hb3⟩
                 have hs3 := hb3.size
                 have hB3 : Below w2.heap.size w2 w3 := hbr.trans (hb3.mono hws)
                 have hkf := of.length
                 rw [HPL.out] at hkf
                 have hkf2 : kf ≤ 37 := (by omega)
                 have HC4 := Lib.hid ((S1.out.belw hb3).takeN w3.heap.size Af kf cf (put own) of.reads (Nat.le_refl _) (by omega) (by simp) HSP.out)
                 clear hkf of)
              | (go_at_call 38; (with_reducible refine HC4.out.mono ?_); rintro e w4 ⟨A4, k4, c4, rfl, o4, s4, hg4⟩
                 have hB4 : Below w2.heap.size w2 w4 := below_grownS hB3 hg4 (by omega) (by omega)
                 have S4 := Lib.hid s4
                 obtain rfl : 1 = k4 := o4.length
                 obtain ⟨v4, ov4, iv4⟩ := o4
                 obtain ⟨q, X4, kx4, cx4, r, bd⟩ := iv4.get (i := 0) rfl
                 obtain ⟨b4, off4, rfl, -, hcc4⟩ := (Reads.of_own ov4).open2 (by omega)
                 have HYW := Lib.hid ((HYT.out.below hB2).below (hB4.mono (by omega)))
                 have f0 : ∀ m, (w4.drewN m).cell? ⟨b4, off4, none⟩ = some (.int .i64 0) := fun m => hcc4 0 _ q
                 have f1 : ∀ m, (w4.drewN m).cell? ⟨b4, off4 + 1, none⟩ = some (.slice X4 kx4 cx4) := fun m => hcc4 1 _ r
                 have cv1 : ∀ m, (convert 22 9 (.slice X4 kx4 cx4)).run Try.prog (w4.drewN m) = .ok (.string ⟨own.toArray⟩) (w4.drewN m) := fun m => conv_any (bd.reads.drewN m)
                 have cv2 : ∀ m, (convert 22 9 (.slice Bm M d)).run Try.prog (w4.drewN m) = .ok (.string ⟨own.toArray⟩) (w4.drewN m) := fun m => conv_any (HYW.out.drewN m)
                 clear ov4 iv4 q r bd hcc4 s4 hg4))
            go_quiet ((go_at_call 41; exact Calls.quiet_of_same ((S4.out.drewN _).rest0.mono fun _ _ h => ⟨h.1, h.2.symm⟩)))
            go_wp2
            go_ret
            exact ⟨by simp, below_drewN (hB2.trans (hB4.mono hB2.size)) _⟩
end Go.Proofs.Ytmjoikjkmdbleaa
