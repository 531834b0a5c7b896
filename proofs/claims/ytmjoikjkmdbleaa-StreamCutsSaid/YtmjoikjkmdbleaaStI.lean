/- What the laws of streams share: pieces, streams side by side; and the walk of the law StreamRests. -/
import Derived.Test.YtmjoikjkmdbleaaStG
import Derived.Test.YtmjoikjkmdbleaaStH
namespace Go.Proofs.Ytmjoikjkmdbleaa
open Go.RowKit Crc Fr St
set_option linter.unusedVariables false

theorem Sls.more {w : World} {B B' : Nat} {ls : List (List UInt8)} {vs : List Value} (h : Sls w B ls vs) (hB : B ≤ B') : Sls w B' ls vs :=
  ⟨h.1, fun i l hi => by
    obtain ⟨A, k, c, h1, h2, h3, h4⟩ := h.2 i l hi
    exact ⟨A, k, c, h1, h2, h3, h4.more hB⟩⟩
theorem OwnI.keptG {w w' : World} {base base' g : Nat} {A : Option Addr} {k c : Nat} {its : List It} (h : OwnI w base (g5 w base') A k c its) (hg : w.grownBy w' (some g)) (h1 : g < base) (h2 : g < base') : OwnI w' base (g5 w' base') A k c its := by
  have e1 : ∀ p, g5 w base' p → some p ≠ some g := fun p hp e => by injection e with e; have := hp.1; omega
  refine h.keep hg.size (fun g' hg' hlt => hg.block g' hlt (fun e => ?_)) (fun p hp hlt => hg.block p hlt (e1 p hp)) (fun p hp hlt => g5.of_eq hp (hg.block p hlt (e1 p hp)))
  injection e with e
  have := (h.lt hg').1
  omega
theorem OwnB.keptG {w w' : World} {base g : Nat} {A : Option Addr} {k c : Nat} {l : List UInt8} (h : OwnB w base A k c l) (hg : w.grownBy w' (some g)) (hlt : g < base) : OwnB w' base A k c l :=
  h.grown hg (fun g' hA e => by
    subst hA
    injection e with e
    have := h.ltg.1
    omega)
theorem Strm.keptG {w w' : World} {base g g2 : Nat} {rest : List UInt8} (h : Strm w base g2 rest) (hg : w.grownBy w' (some g)) (hne : g2 ≠ g) (hlt : g < base) : Strm w' base g2 rest := by
  obtain ⟨h1, h2, A0, k0, c0, h3, h4⟩ := h
  have e := hg.block g2 h1 (fun e => hne (by injection e))
  exact ⟨by have := hg.size; omega, (World.frozen?_of_block e).trans h2, A0, k0, c0, (World.cell?_of_block e).trans h3, h4.keptG hg hlt⟩
theorem Strm.lt {w : World} {base g : Nat} {rest : List UInt8} (h : Strm w base g rest) : g < w.heap.size := h.1
theorem below_grownS {B g : Nat} {a w w' : World} (h : Below B a w) (hg : w.grownBy w' (some g)) (hB : B ≤ w.heap.size) (hr : B ≤ g) : Below B a w' :=
  h.grown hg hB (fun k e => by injection e with e; omega)

theorem scan_go (acc x : List UInt8) : (scan ((scan acc).2 ++ x)).2 = (scan (acc ++ x)).2 := by rw [scan_append acc x]
/-- Take, the items and what is left by name. -/
theorem Strm.takeN {w : World} {base g : Nat} {rest : List UInt8} (h : Strm w base g rest) (B : Nat) (A : Option Addr) (n c : Nat) (x : List UInt8) (hr : Reads w B 1 A n (x.map bv)) (hB : B ≤ w.heap.size) (hn : n ≤ 20000) (hl : rest.length < 37)
    {its : List It} {r' : List UInt8} (hsc : scan (rest ++ x) = (its, r')) :
    Calls Try.prog 38 #[.pointer (some ⟨g, 0, none⟩), .slice A n c] w fun e w' => ∃ A' k' c', e = .returned (.slice A' k' c') ∧ OwnI w' w.heap.size (g5 w' w.heap.size) A' k' c' its ∧
      Strm w' w.heap.size g r' ∧ w.grownBy w' (some g) := by
  have := h.take B A n c x hr hB hn (by omega)
  rw [hsc] at this
  exact this
theorem Strm.restN {w : World} {base g : Nat} {rest : List UInt8} (h : Strm w base g rest) {L : Nat} (hL : rest.length = L) : Calls Try.prog 41 #[.pointer (some ⟨g, 0, none⟩)] w fun e w' => e = .returned (.int .i64 (L : Int)) ∧ w = w' := by
  have := h.rest
  rw [hL] at this
  exact this.mono fun e w' ⟨h1, h2⟩ => ⟨h1, h2.symm⟩

theorem fewOf_length (ls : List (List UInt8)) : (fewOf ls 20).length ≤ 20 := by unfold fewOf; simp; omega
theorem fewOf_each (ls : List (List UInt8)) : ∀ l ∈ fewOf ls 20, l.length ≤ 100 := by
  intro l hl
  unfold fewOf at hl
  obtain ⟨x, _, rfl⟩ := List.mem_map.1 hl
  exact List.length_take_le 100 x
theorem few_flat (pcs : List (List UInt8)) (h : ∀ l ∈ pcs, l.length ≤ 100) (hl : pcs.length ≤ 20) (i : Nat) : (pcs.take i).flatten.length ≤ 2000 := by
  have h2 := flatten_le (pcs.take i) 100 (fun l hl => h l (List.mem_of_mem_take hl))
  have h3 := List.length_take_le i pcs
  have h5 : (pcs.take i).length ≤ 20 := by rw [List.length_take]; omega
  have h4 := Nat.mul_le_mul_right 100 h5
  omega

set_option maxHeartbeats 2000000 in
theorem rests_walk (A Bm : Option Addr) (n m c d : Nat) (ls : List (List UInt8)) (vs : List Value) (y : List UInt8) (w : World) (hx : Reads w w.heap.size 1 A n vs) (hs : Sls w w.heap.size ls vs) (hy : Reads w w.heap.size 1 Bm m (y.map bv))
    (hn : n ≤ c) (hc : c ≤ maxLen) (hm : m ≤ d) (hd : d ≤ maxLen) :
    Calls Try.prog 17 #[.slice A n c, .slice Bm m d] w fun e w' => e = .returned (.bool true) ∧ Below w.heap.size w w' := by
  have hpl := fewOf_length ls
  have hpe := fewOf_each ls
  have hnm : n ≤ maxLen := by omega
  have HX := Lib.hid hx
  have HS := Lib.hid hs
  have HY := Lib.hid hy
  have HNM := Lib.hid hnm
  unfold maxLen at hc hd
  clear hx hs hy hnm
  go_enter Try.func17, Try.ntmps17
  go_wp2_with (first
    | (go_at_call 34; (with_reducible refine (shown07_any _).mono ?_); rintro e w1 ⟨rfl, hb1⟩; have hs1 := hb1.size)
    | (go_at_call 35; (with_reducible refine (few7_any w.heap.size A n c ls vs w1 (HX.out.below hb1) (HS.out.below hb1) hs1 HNM.out).mono ?_); rintro e w2 ⟨Ap, kp, cp, rfl, op, hb2⟩
       have hs2 := hb2.size
       have hB2 := hb1.trans (hb2.mono hs1)
       have hkp := op.length
       obtain ⟨vp, hrp, hsp⟩ := op.reads
       have HRP := Lib.hid hrp
       have HSP := Lib.hid hsp
       clear op hrp hsp)
    | (go_at_call 37; (with_reducible refine (new_any _).mono ?_); rintro e w' ⟨rfl, rfl⟩))
  generalize hpc : fewOf ls 20 = pcs at *
  clear hpc
  have HKP := Lib.hid hkp
  have HPL := Lib.hid hpl
  have HPE := Lib.hid hpe
  have hkp20 : kp ≤ 20 := by omega
  clear hkp hpl hpe
  go_loopw [9] (fun u wr => ∃ i : Nat, i ≤ kp ∧ u = .int .i64 i ∧ Below w2.heap.size w2 wr ∧ w2.heap.size + 2 ≤ wr.heap.size ∧ Strm wr (w2.heap.size + 2) w2.heap.size (scan (pcs.take i).flatten).2 ∧ Strm wr (w2.heap.size + 2) (w2.heap.size + 1) []) (fun u _ => kp - (intOf u).toNat)
  case atStart =>
    refine ⟨0, by omega, rfl, ((Below.refl _ _).alloc (Nat.le_refl _) _).alloc (by simp) _, by simp, ?_, ?_⟩
    · rw [List.take_zero, List.flatten_nil, scan_nil]
      exact (Strm.new w2 _).belw ((Below.refl _ _).alloc (Nat.le_refl _) _)
    · simpa using Strm.new (w2.alloc (.cells #[.slice none 0 0] 60)) (w2.heap.size + 2)
  case round =>
    obtain ⟨i, hi, rfl, hbr, hsz, s1, t1⟩ := hrel
    have hws := hbr.size
    have S1 := Lib.hid s1
    have T1 := Lib.hid t1
    clear s1 t1
    by_cases hlt : i < kp
    · obtain ⟨l, hl⟩ : ∃ l, pcs[i]? = some l := ⟨pcs[i]'(by rw [HKP.out]; exact hlt), List.getElem?_eq_getElem _⟩
      obtain ⟨X, kx, cx, hx1, hx2, hx3, hx4⟩ := HSP.out.2 i l hl
      obtain ⟨b, off, rfl, hbb, hcc⟩ := HRP.out.open1 (by omega)
      have f1 : wr.cell? ⟨b, off + i, none⟩ = some (.slice X kx cx) := cell_below hbr (hcc i _ hx1) hbb
      have hkx : kx ≤ 100 := by have h1 := HPE.out l (List.mem_of_getElem? hl); have h2 := hx4.1; simp at h2; omega
      have HX4 := Lib.hid (hx4.below (hbr.mono (by omega)))
      have hsc : scan ((scan (pcs.take i).flatten).2 ++ l) = ((scan ((scan (pcs.take i).flatten).2 ++ l)).1, (scan (pcs.take (i + 1)).flatten).2) := by
        rw [joined_snoc _ _ _ hl, ← scan_go]
      have HC := Lib.hid (S1.out.takeN w.heap.size X kx cx l HX4.out (by omega) (by omega) (left_short _) hsc)
      clear hl hx1 hx4 hcc hsc
      go_wp2_with (go_at_call 38; (with_reducible refine HC.out.mono ?_); rintro e w3 ⟨A3, k3, c3, rfl, -, s3, hg3⟩)
      go_roundw
      case rel => exact ⟨i + 1, by omega, by go_num, below_grownS hbr hg3 hws (Nat.le_refl _), by have := hg3.size; omega, s3.mono hsz, T1.out.keptG hg3 (by omega) (by omega)⟩
      case measure => simp [intOf]; omega
    · have hik : i = kp := by omega
      have htk : (pcs.take i).flatten = pcs.flatten := by rw [List.take_of_length_le (by rw [HKP.out]; omega)]
      have s1 := S1.out
      rw [htk] at s1
      clear S1 htk
      obtain ⟨LF, hLF⟩ : ∃ LF, LF = (scan pcs.flatten).2 := ⟨_, rfl⟩
      rw [← hLF] at s1
      have S1 := Lib.hid s1
      have hfl := few_flat pcs HPE.out HPL.out 20
      rw [List.take_of_length_le HPL.out] at hfl
      have hsl := left_short pcs.flatten
      have hll := left_le pcs.flatten
      have hld := left_drop pcs.flatten
      have hself := scan_left pcs.flatten
      rw [← hLF] at hsl hll hld hself
      obtain ⟨L, hL⟩ : ∃ L, L = LF.length := ⟨_, rfl⟩
      rw [← hL] at hsl hll hld
      have HL := Lib.hid hL.symm
      have HLD := Lib.hid hld
      have HSELF := Lib.hid (show scan ([] ++ LF) = ([], LF) from hself)
      have HLL := Lib.hid hll
      have HFL := Lib.hid hfl
      obtain ⟨M, hMm, hM2, hmin⟩ : ∃ M : Nat, M ≤ m ∧ M ≤ 200 ∧ (if (200 : Int) < (m : Int) then (200 : Int) else (m : Int)) = (M : Int) := by
        by_cases h : m ≤ 200
        · exact ⟨m, by omega, h, by rw [if_neg (by omega)]⟩
        · exact ⟨200, by omega, by omega, by rw [if_pos (by omega)]; rfl⟩
      have HYT := Lib.hid (HY.out.bytesTake hMm)
      obtain ⟨itf, hitf⟩ : ∃ itf, itf = scan (LF ++ y.take M) := ⟨_, rfl⟩
      obtain ⟨it2, rs2⟩ := itf
      have HIT := Lib.hid hitf.symm
      obtain ⟨L2, hL2⟩ : ∃ L2, L2 = rs2.length := ⟨_, rfl⟩
      have HL2 := Lib.hid hL2.symm
      have HJ := Lib.hid (joined7_any w2.heap.size Ap kp cp pcs vp wr (HRP.out.below hbr) ((HSP.out.more (by omega)).below hbr) hws hkp20 HPE.out)
      clear hLF hL s1 hfl hll hld hself hitf hL2 hik
      go_wp2_with (first
        | (go_at_call 36; (with_reducible refine HJ.out.mono ?_); rintro e w3 ⟨Aj, kj, cj, rfl, oj, hb3⟩
           have hs3 := hb3.size
           have hkj := oj.length
           have hLk : L ≤ kj := (by have := HLL.out; omega)
           have hkj2 : kj ≤ 2000 := (by have := HFL.out; omega)
           have bdj := oj.bounds
           have hB3 : Below w2.heap.size w2 w3 := hbr.trans (hb3.mono hws)
           have S3 := Lib.hid (S1.out.belw hb3)
           have T3 := Lib.hid (T1.out.belw hb3)
           have hsub : kj - (kj - L) = L := by omega
           have hcut : Reads w3 w3.heap.size 1 (if cj = kj - L then Aj else Aj.map (·.add (kj - L))) L (LF.map bv) := (by
             have h1 := Reads.cut (k := kj - L) oj.reads (by omega) bdj.1
             rw [Nat.mul_one, ← List.map_drop, ← hkj, HLD.out, hkj, hsub] at h1
             exact h1)
           have sl : ∀ w, (Instr.slice 22 (.slice Aj kj cj) (some (.int .i64 ((kj : Int) - (L : Int)))) none none).run Try.prog w = .ok (.slice (if cj = kj - L then Aj else Aj.map (·.add (kj - L))) L (cj - (kj - L))) w := fun w => (by
             have h1 := slice_any Aj kj cj (kj - L) w ((kj : Int) - (L : Int)) (by omega) (by omega) bdj.1
             rw [hsub] at h1
             exact h1)
           have HCUT := Lib.hid hcut
           clear hcut hkj oj bdj hsub
           generalize (if cj = kj - L then Aj else Aj.map (·.add (kj - L))) = Aj' at sl HCUT
           generalize cj - (kj - L) = cj' at sl)
        | (go_at_call 41; (with_reducible refine (S3.out.restN HL.out).mono ?_); rintro e w' ⟨rfl, rfl⟩)
        | (go_at_call 38; (with_reducible refine (T3.out.takeN w3.heap.size Aj' L cj' LF HCUT.out (Nat.le_refl _) (by omega) (by simp) HSELF.out).mono ?_); rintro e w4 ⟨A4, k4, c4, rfl, o4, t4, hg4⟩
           have hs4 := hg4.size
           obtain rfl : 0 = k4 := o4.length
           clear o4
           have hB4 : Below w2.heap.size w2 w4 := below_grownS hB3 hg4 (by omega) (by omega)
           have S4 := Lib.hid (S3.out.keptG hg4 (by omega) (by omega))
           have T4 := Lib.hid (t4.mono (base' := w2.heap.size + 2) (by omega))
           clear t4 hg4)
        | (go_at_call 38; (with_reducible refine (S4.out.takeN w.heap.size Bm M d (y.take M) ((HYT.out.below hB2).below (hB4.mono (by omega))) (by omega) (by omega) (by have := HL.out; omega) HIT.out).mono ?_); rintro e w5 ⟨A5, k5, c5, rfl, o5, s5, hg5⟩
           have hs5 := hg5.size
           have hB5 : Below w2.heap.size w2 w5 := below_grownS hB4 hg5 (by omega) (by omega)
           have S5 := Lib.hid (s5.mono (base' := w2.heap.size + 2) (by omega))
           have T5 := Lib.hid (T4.out.keptG hg5 (by omega) (by omega))
           have O5 := Lib.hid o5
           clear s5 hg5 o5)
        | (go_at_call 38; (with_reducible refine (T5.out.takeN w.heap.size Bm M d (y.take M) ((HYT.out.below hB2).below (hB5.mono (by omega))) (by omega) (by omega) (by have := HL.out; omega) HIT.out).mono ?_); rintro e w6 ⟨A6, k6, c6, rfl, o6, t6, hg6⟩
           have hs6 := hg6.size
           have hB6 : Below w2.heap.size w2 w6 := below_grownS hB5 hg6 (by omega) (by omega)
           have S6 := Lib.hid (S5.out.keptG hg6 (by omega) (by omega))
           have T6 := Lib.hid (t6.mono (base' := w2.heap.size + 2) (by omega))
           have o5' := O5.out.keptG hg6 (by omega) (by omega)
           obtain rfl : k5 = k6 := o5'.length.symm.trans o6.length
           obtain ⟨v5, ov5, iv5⟩ := o5'
           obtain ⟨v6, ov6, iv6⟩ := o6
           have HSM := Lib.hid (same07_refl w6 A5 A6 k5 c5 c6 _ _ _ _ _ _ _ (Reads.of_own ov5) iv5 (Reads.of_own ov6) iv6 (by rcases ov5.2 with ⟨_, h⟩ | ⟨_, _, _, _, _, _, h1, h2, _⟩ <;> (try unfold maxLen at *) <;> omega))
           clear ov5 iv5 ov6 iv6 t6 hg6)
        | (go_at_call 40; (with_reducible refine HSM.out.mono ?_); rintro e w7 ⟨rfl, hb7⟩
           have hB7 : Below w2.heap.size w2 w7 := hB6.trans (hb7.mono (by omega))
           have S7 := Lib.hid (S6.out.belw hb7)
           have T7 := Lib.hid (T6.out.belw hb7))
        | (go_at_call 41; (with_reducible refine (S7.out.restN HL2.out).mono ?_); rintro e w' ⟨rfl, rfl⟩)
        | (go_at_call 41; (with_reducible refine (T7.out.restN HL2.out).mono ?_); rintro e w' ⟨rfl, rfl⟩))
      go_ret
      exact ⟨rfl, hB2.trans (hB7.mono hB2.size)⟩
end Go.Proofs.Ytmjoikjkmdbleaa
