/- The walk of the law StreamFrames. -/
import Derived.Test.YtmjoikjkmdbleaaStK
namespace Go.Proofs.Ytmjoikjkmdbleaa
open Go.RowKit Crc Fr St
set_option linter.unusedVariables false

def frs (calm : List UInt8) (pcs : List (List UInt8)) : List UInt8 := (pcs.map (fun l => put (l.take 32) ++ calm)).flatten
def wants (pcs : List (List UInt8)) : List It := pcs.map (fun l => (0, l.take 32))
theorem frs_snoc (calm : List UInt8) (pcs : List (List UInt8)) (i : Nat) (l : List UInt8) (h : pcs[i]? = some l) : frs calm (pcs.take (i + 1)) = frs calm (pcs.take i) ++ put (l.take 32) ++ calm := by
  unfold frs; rw [List.take_add_one, h, List.map_append, List.flatten_append]; simp
theorem wants_snoc (pcs : List (List UInt8)) (i : Nat) (l : List UInt8) (h : pcs[i]? = some l) : wants (pcs.take (i + 1)) = wants (pcs.take i) ++ [(0, l.take 32)] := by
  unfold wants; rw [List.take_add_one, h, List.map_append]; rfl
theorem wants_length (pcs : List (List UInt8)) : (wants pcs).length = pcs.length := by simp [wants]
theorem frs_length (calm : List UInt8) (pcs : List (List UInt8)) (hc : calm.length ≤ 50) : (frs calm pcs).length ≤ pcs.length * 87 := by
  induction pcs with
  | nil => simp [frs]
  | cons a r ih =>
    have h1 := put_length (a.take 32)
    have h2 := List.length_take_le 32 a
    have e : frs calm (a :: r) = put (a.take 32) ++ calm ++ frs calm r := rfl
    rw [e, List.length_append, List.length_append, List.length_cons, Nat.add_mul]
    omega
theorem scan_frs (calm : List UInt8) (hc : ∀ c ∈ calm, c ≠ 165) (pcs : List (List UInt8)) : scan (frs calm pcs) = (wants pcs, []) := by
  induction pcs with
  | nil => exact scan_nil
  | cons a r ih =>
    have e : frs calm (a :: r) = put (a.take 32) ++ (calm ++ frs calm r) := by
      show put (a.take 32) ++ calm ++ frs calm r = _
      rw [List.append_assoc]
    rw [e, scan_frame _ _ (List.length_take_le 32 a), scan_noise _ _ hc, ih]
    rfl
theorem scan_all (calm : List UInt8) (hc : ∀ c ∈ calm, c ≠ 165) (pcs : List (List UInt8)) : scan (calm ++ frs calm pcs) = (wants pcs, []) := by
  rw [scan_noise _ _ hc, scan_frs calm hc]

/-- All, where nothing is left. -/
theorem all0 {l : List UInt8} {its : List It} (hs : scan l = (its, [])) (B : Nat) (A : Option Addr) (n c : Nat) (w : World) (hr : Reads w B 1 A n (l.map bv)) (hB : B ≤ w.heap.size) (hc : n ≤ c) (hm : c ≤ maxLen) (hn : n ≤ 100000) :
    Calls Try.prog 39 #[.slice A n c] w fun e w' => ∃ A' k' c', e = .returned (.tuple #[.slice A' k' c', .int .i64 0]) ∧ OwnI w' w.heap.size (g5 w' w.heap.size) A' k' c' its ∧ Below w.heap.size w w' := by
  have := all_any B A n c l w hr hB hc hm hn
  rw [hs] at this
  exact this
theorem allN {l : List UInt8} {its : List It} {r : List UInt8} {L : Nat} (hs : scan l = (its, r)) (hL : r.length = L) (B : Nat) (A : Option Addr) (n c : Nat) (w : World) (hr : Reads w B 1 A n (l.map bv)) (hB : B ≤ w.heap.size) (hc : n ≤ c) (hm : c ≤ maxLen) (hn : n ≤ 100000) :
    Calls Try.prog 39 #[.slice A n c] w fun e w' => ∃ A' k' c', e = .returned (.tuple #[.slice A' k' c', .int .i64 (L : Int)]) ∧ OwnI w' w.heap.size (g5 w' w.heap.size) A' k' c' its ∧ Below w.heap.size w w' := by
  have := all_any B A n c l w hr hB hc hm hn
  rw [hs, ← hL] at *
  exact this

theorem Bd.of_reads {w : World} {B A : Nat} {good : Nat → Prop} {X : Option Addr} {k c : Nat} {b : List UInt8} (h : Reads w B 1 X k (b.map bv)) (hB : B ≤ w.heap.size) (hg : ∀ p, p < B → good p) (hc : k ≤ c) (hm : c ≤ maxLen) : Bd w good X k c b := by
  refine ⟨by have := h.1; simpa using this, hc, hm, fun h0 => ?_⟩
  obtain ⟨ad, e, hb, hcell⟩ := h.2 h0
  exact ⟨ad, e, hg _ hb, by omega, fun j u hu => hcell j _ (by rw [List.getElem?_map, hu]; rfl)⟩
theorem OwnB.g5 {w : World} {base : Nat} {A : Option Addr} {k c : Nat} {l : List UInt8} (h : OwnB w base A k c l) {g : Nat} (hg : (Value.slice A k c).ownBlock = some g) : g5 w base g := by
  rcases h.2 with ⟨h2, _⟩ | ⟨g', cap, cur, hv, hb, hh, _⟩
  · injection h2 with h2 _ _; subst h2; cases hg
  · injection hv with hv _ _; subst hv; injection hg with hg; subst hg; exact ⟨hb, cur, _, hh⟩
/-- A growing row of bytes leaves a row of items as it was. -/
theorem OwnI.keptB {w w' : World} {base base2 B : Nat} {A A2 : Option Addr} {k c k2 c2 : Nat} {its : List It} {l : List UInt8} (h : OwnI w base (· < B) A k c its) (ho : OwnB w base2 A2 k2 c2 l) (hB : B ≤ base2) (hg : w.grownBy w' (Value.slice A2 k2 c2).ownBlock) : OwnI w' base (· < B) A k c its := by
  refine h.keep hg.size (fun g' hg' hlt => hg.block g' hlt (fun e => ?_)) (fun p hp hlt => hg.block p hlt (fun e => ?_)) (fun p hp _ => hp)
  · exact h.g5ne (ho.g5 e.symm) hg'.symm
  · have := (ho.lt p e.symm).1
    have : p < B := hp
    omega
/-- A growing row of items leaves a row of bytes as it was. -/
theorem OwnB.keptI {w w' : World} {base base2 : Nat} {good : Nat → Prop} {A A2 : Option Addr} {k c k2 c2 : Nat} {its : List It} {l : List UInt8} (h : OwnB w base A k c l) (ho : OwnI w base2 good A2 k2 c2 its) (hg : w.grownBy w' (Value.slice A2 k2 c2).ownBlock) : OwnB w' base A k c l :=
  h.grown hg (fun g hA e => by
    subst hA
    exact ho.g5ne (h.g5 (g := g) rfl) e.symm)
theorem OwnI.made0 (w : World) {base : Nat} {good : Nat → Prop} (hb : base ≤ w.heap.size) : OwnI (w.alloc (.cells #[] 55)) base good (some ⟨w.heap.size, 0, none⟩) 0 0 [] :=
  ⟨[], World.ownsRow_made w #[] 0 hb (by decide) rfl, trivial⟩
theorem OwnI.blw {w w' : World} {base B : Nat} {A : Option Addr} {k c : Nat} {its : List It} (h : OwnI w base (· < B) A k c its) (hb : Below w.heap.size w w') : OwnI w' base (· < B) A k c its :=
  h.keep hb.size (fun g _ hlt => hb.block g hlt) (fun p _ hlt => hb.block p hlt) (fun p hp _ => hp)

theorem rput_d (nq B : Nat) (A : Option Addr) (n c : Nat) (l : List UInt8) (w : World) (hr : Reads w B 1 A n (l.map bv)) (hB : B ≤ w.heap.size) (hn : n ≤ 32) :
    Calls Try.prog 31 #[.slice A n c] (w.drewN nq) fun e w' => ∃ A' k' c', e = .returned (.tuple #[.slice A' k' c', .int .i64 0]) ∧ OwnB w' w.heap.size A' k' c' (put l) ∧ Below w.heap.size w w' :=
  (rput_any B A n c l (w.drewN nq) (hr.drewN nq) hB hn).mono fun e w' ⟨A', k', c', h1, h2, h3⟩ => ⟨A', k', c', h1, h2, (below_drewN (Below.refl _ _) _).trans h3⟩

set_option maxHeartbeats 2000000 in
theorem frames_walk (A Bm : Option Addr) (n m c d : Nat) (ls : List (List UInt8)) (vs : List Value) (y : List UInt8) (w : World) (hx : Reads w w.heap.size 1 A n vs) (hs : Sls w w.heap.size ls vs) (hy : Reads w w.heap.size 1 Bm m (y.map bv))
    (hn : n ≤ c) (hc : c ≤ maxLen) (hm : m ≤ d) (hd : d ≤ maxLen) :
    Calls Try.prog 15 #[.slice A n c, .slice Bm m d] w fun e w' => e = .returned (.bool true) ∧ Below w.heap.size w w' := by
  have hpl := fewOf_length ls
  have hpe := fewOf_each ls
  have hnm : n ≤ maxLen := by omega
  have hlx : y.length = m := by simpa using hy.1
  have HLX := Lib.hid hlx
  have HX := Lib.hid hx
  have HS := Lib.hid hs
  have HY := Lib.hid hy
  have HNM := Lib.hid hnm
  unfold maxLen at hc hd
  clear hx hs hy hnm hlx
  go_enter Try.func15, Try.ntmps15
  go_wp2_with (first
    | (go_at_call 34; (with_reducible refine (shown07_any _).mono ?_); rintro e w1 ⟨rfl, hb1⟩; have hs1 := hb1.size)
    | (go_at_call 35; (with_reducible refine (few7_any w.heap.size A n c ls vs w1 (HX.out.below hb1) (HS.out.below hb1) hs1 HNM.out).mono ?_); rintro e w2 ⟨Ap, kp, cp, rfl, op, hb2⟩
       have hs2 := hb2.size
       have hB2 := hb1.trans (hb2.mono hs1)
       have hkp := op.length
       obtain ⟨vp, hrp, hsp⟩ := op.reads
       have HRP := Lib.hid hrp
       have HSP := Lib.hid hsp
       clear op hrp hsp))
  generalize hpc : fewOf ls 20 = pcs at *
  clear hpc
  have HKP := Lib.hid hkp
  have HPL := Lib.hid hpl
  have HPE := Lib.hid hpe
  have hkp20 : kp ≤ 20 := by omega
  clear hkp hpl hpe
  go_loopw [7, 8] (fun v u wr => ∃ (i : Nat) (A1 : Option Addr) (k1 c1 : Nat), i ≤ m ∧ i ≤ 50 ∧ u = .int .i64 i ∧ v = .slice A1 k1 c1 ∧ OwnB wr w2.heap.size A1 k1 c1 (calmOf y i) ∧ Below w2.heap.size w2 wr) (fun _ u _ => m - (intOf u).toNat)
  case atStart => exact ⟨0, _, _, _, by omega, by omega, rfl, rfl, by simpa [calmOf] using (OwnB.made0 w2 (Nat.le_refl _)), (Below.refl _ _).alloc (Nat.le_refl _) _⟩
  case round =>
    obtain ⟨i, A1, k1, c1, hi, hi2, rfl, rfl, ho, hbr⟩ := hrel
    have hws := hbr.size
    have hk1 : k1 ≤ 50 := by have := ho.length; have := calmOf_length y i; omega
    have HO := Lib.hid ho
    clear ho
    by_cases hlt : i < m ∧ i < 50
    · obtain ⟨hlt, hlt2⟩ := hlt
      obtain ⟨b, off, rfl, hbb, hcc⟩ := HY.out.open_ (by omega)
      obtain ⟨u, hu⟩ : ∃ u, y[i]? = some u := ⟨y[i]'(by rw [HLX.out]; exact hlt), List.getElem?_eq_getElem _⟩
      have f1 : wr.cell? ⟨b, off + i, none⟩ = some (.int .u8 (u.toNat : Int)) := cell_below (hB2.trans (hbr.mono hB2.size)) (hcc i u hu) hbb
      have HU := Lib.hid hu
      clear hu hcc
      have hbu := bne_u8 u 165 (by omega)
      by_cases h165 : u = 165
      · have hb0 : ((u.toNat : Int) != 165) = false := by rw [show (165 : Int) = ((165 : Nat) : Int) from rfl, hbu, h165]; rfl
        have H165 := Lib.hid h165
        clear hbu h165
        go_wp2
        go_roundw
        case rel => exact ⟨i + 1, _, _, _, by omega, by omega, by go_num, rfl, by rw [calmOf_no _ _ _ HU.out H165.out]; exact HO.out, hbr⟩
        case measure => simp [intOf]; omega
      · have hb0 : ((u.toNat : Int) != 165) = true := by rw [show (165 : Int) = ((165 : Nat) : Int) from rfl, hbu]; simpa using h165
        have H165 := Lib.hid h165
        clear hbu h165
        go_wp2_with (
          at_builtin
          refine wpList_append_b rfl (.tmp 36) (.tmp 41) rfl w2.heap.size A1 k1 c1 _ rfl (HO.out.alloc _) (wr.heap.size + 1) (some ⟨wr.heap.size, 0, none⟩) 1 1 [u] rfl (reads_new_b wr [u] #[.int .u8 (u.toNat : Int)] 5 (0, 0) 1 rfl rfl) (by omega) (by simp; omega) ?_
          intro A3 k3 c3 w3 hk3 hk3' o3 hg3 _
          have hb3 : Below w2.heap.size w2 w3 := (hbr.alloc hws _).grown hg3 (by simp; omega) (fun g hg => (HO.out.lt g hg).1)
          clear hg3)
        go_roundw
        case rel => exact ⟨i + 1, _, _, _, by omega, by omega, by go_num, rfl, by rw [calmOf_yes _ _ _ HU.out H165.out]; exact o3, hb3⟩
        case measure => simp [intOf]; omega
    · have hcalm := calmOf_calm y i
      have hcl := HO.out.length
      generalize calmOf y i = calm at HO hcalm hcl
      have HCM := Lib.hid hcalm
      have hcl50 : calm.length ≤ 50 := by omega
      have HCL := Lib.hid hcl50
      clear hcalm hcl hcl50
      by_cases hin : i < m
      all_goals
        go_wp2
        generalize hw3 : wr = w3 at *
        clear hw3
        go_loopw [9, 10, 11] (fun va vb u wr => ∃ (j : Nat) (Aa : Option Addr) (ka ca : Nat) (Aw : Option Addr) (kw cw : Nat), j ≤ kp ∧ u = .int .i64 j ∧ va = .slice Aa ka ca ∧ vb = .slice Aw kw cw ∧ OwnB wr w3.heap.size Aa ka ca (frs calm (pcs.take j)) ∧ OwnI wr w3.heap.size (· < w.heap.size) Aw kw cw (wants (pcs.take j)) ∧ Below w3.heap.size w3 wr) (fun _ _ u _ => kp - (intOf u).toNat)
        case atStart => exact ⟨0, _, _, _, _, _, _, by omega, rfl, rfl, rfl, by simpa [frs] using (OwnB.made0 w3 (Nat.le_refl _)).alloc _, by simpa [wants] using OwnI.made0 (w3.alloc (.cells #[] 5)) (base := w3.heap.size) (good := (· < w.heap.size)) (by simp), ((Below.refl _ _).alloc (Nat.le_refl _) _).alloc (by simp) _⟩
        case round =>
          obtain ⟨j, Aa, ka, ca, Aw, kw, cw, hj, rfl, rfl, rfl, oa, ow, hbr4⟩ := hrel
          have hws4 := hbr4.size
          have htl : (pcs.take j).length ≤ 20 := by have := HPL.out; rw [List.length_take]; omega
          have hka : ka ≤ 1740 := by have h1 := oa.length; have h2 := frs_length calm (pcs.take j) HCL.out; have h3 := Nat.mul_le_mul_right 87 htl; omega
          have hkw : kw ≤ 20 := by have h1 := ow.length; rw [wants_length] at h1; omega
          have OA := Lib.hid oa
          have OW := Lib.hid ow
          have hB24 : Below w2.heap.size w2 wr := hbr.trans (hbr4.mono hws)
          clear oa ow htl
          by_cases hlt4 : j < kp
          · obtain ⟨l, hl⟩ : ∃ l, pcs[j]? = some l := ⟨pcs[j]'(by rw [HKP.out]; exact hlt4), List.getElem?_eq_getElem _⟩
            obtain ⟨X, kx, cx, hx1, hx2, hx3, hx4⟩ := HSP.out.2 j l hl
            obtain ⟨b, off, rfl, hbb, hcc⟩ := HRP.out.open1 (by omega)
            have f1 : wr.cell? ⟨b, off + j, none⟩ = some (.slice X kx cx) := cell_below hB24 (hcc j _ hx1) hbb
            have hlk : l.length = kx := by simpa using hx4.1
            obtain ⟨K, hK1, hK2, hmin, hKe⟩ : ∃ K : Nat, K ≤ kx ∧ K ≤ 32 ∧ (if (32 : Int) < (kx : Int) then (32 : Int) else (kx : Int)) = (K : Int) ∧ l.take 32 = l.take K := by
              by_cases h : kx ≤ 32
              · exact ⟨kx, by omega, h, by rw [if_neg (by omega)], by rw [List.take_of_length_le (by omega), List.take_of_length_le (by omega)]⟩
              · exact ⟨32, by omega, by omega, by rw [if_pos (by omega)]; rfl, rfl⟩
            have hxt : Reads wr w.heap.size 1 X K ((l.take 32).map bv) := by rw [hKe]; exact (hx4.below (hB24.mono hB2.size)).bytesTake hK1
            have HXT := Lib.hid hxt
            have HX2 := Lib.hid hx4
            have HPD := Lib.hid (fun nq => rput_d nq w.heap.size X K cx (l.take 32) wr hxt (by omega) hK2)
            have HKE := Lib.hid hKe
            have HL := Lib.hid hl
            have hKc : K ≤ cx := by omega
            have hpl32 := List.length_take_le 32 l
            have HPL32 := Lib.hid hpl32
            have HPLL := Lib.hid (put_length (l.take 32))
            unfold maxLen at hx3
            clear hl hx1 hx4 hcc hKe hlk hxt hpl32
            go_wp2
            go_quiet (fail)
            go_wp2_with (first
              | (go_at_call 31; (with_reducible refine (HPD.out _).mono ?_); rintro e w5 ⟨Af, kf, cf, rfl, of, hb5'⟩
                 have hs5 := hb5'.size
                 have hkf : kf ≤ 37 := (by have h1 := of.length; have h2 := HPLL.out; have h3 := HPL32.out; omega)
                 have OF := Lib.hid of
                 have OA5 := Lib.hid (OA.out.below hb5')
                 have OW5 := Lib.hid (OW.out.blw hb5')
                 have hB5 : Below w3.heap.size w3 w5 := hbr4.trans (hb5'.mono hws4)
                 clear of)
              | (at_builtin
                 refine wpList_append_b rfl (.tmp 67) (.tmp 68) rfl w3.heap.size Aa ka ca _ rfl OA5.out w5.heap.size Af kf cf (put (l.take 32)) rfl OF.out.reads (by omega) (by omega) ?_
                 intro A6 k6 c6 w6 hk6 hk6' o6 hg6 _
                 have hB6 : Below w3.heap.size w3 w6 := hB5.grown hg6 (by omega) (fun g hg => (OA5.out.lt g hg).1)
                 have hs6 := hg6.size
                 have OW6 := Lib.hid (OW5.out.keptB OA5.out (by omega) hg6)
                 have O6 := Lib.hid o6
                 clear hg6 o6)
              | (at_builtin
                 refine wpList_append_b rfl (.tmp 69) (.tmp 70) rfl w3.heap.size A6 k6 c6 _ rfl O6.out w3.heap.size A1 k1 c1 calm rfl (HO.out.reads.below hB6) (by omega) (by omega) ?_
                 intro A7 k7 c7 w7 hk7 hk7' o7 hg7 _
                 have hB7 : Below w3.heap.size w3 w7 := hB6.grown hg7 (by omega) (fun g hg => (O6.out.lt g hg).1)
                 have hs7 := hg7.size
                 have hB27 : Below w.heap.size w w7 := hB2.trans ((hbr.trans (hB7.mono hws)).mono hB2.size)
                 have hx7 : Reads w7 w.heap.size 1 X K ((l.take 32).map bv) := (by rw [HKE.out]; exact (HX2.out.below (hbr.trans (hB7.mono hws) |>.mono hB2.size)).bytesTake hK1)
                 have OW7 := Lib.hid ((OW6.out.keptB O6.out (by omega) hg7).blw ((Below.refl _ _).alloc (Nat.le_refl _) (.cells #[.int .i64 0, .slice X K cx] 55)))
                 have O7 := Lib.hid (o7.alloc (.cells #[.int .i64 0, .slice X K cx] 55))
                 clear hg7 o7)
              | (at_builtin
                 refine wpList_append_i rfl (.tmp 72) (.tmp 75) rfl w3.heap.size (· < w.heap.size) Aw kw cw _ rfl OW7.out (w7.heap.size + 1) (some ⟨w7.heap.size, 0, none⟩) 1 1 [(0, l.take 32)] [.int .i64 0, .slice X K cx] (by rfl) (by simpa using reads_new2 w7 (.int .i64 0) (.slice X K cx) 55 (0, 0)) ⟨rfl, ⟨_, _, _, rfl, Bd.of_reads (A := 0) (hx7.alloc (by omega) _) (by simp; omega) (fun _ h => h) hKc (by unfold maxLen; omega)⟩, trivial⟩ (fun p hp e => by have := (OW7.out.lt e.symm).1; have : p < w.heap.size := hp; omega) (by omega) (by simp; omega) ?_
                 intro A8 c8 w8 o8 hg8 _
                 have hB8 : Below w3.heap.size w3 w8 := (hB7.alloc (by omega) _).grown hg8 (by simp; omega) (fun g hg => (OW7.out.lt hg).1)
                 have OA8 := Lib.hid (O7.out.keptI OW7.out hg8)
                 have OW8 := Lib.hid o8
                 clear hg8 o8))
            go_roundw
            case rel => exact ⟨j + 1, A7, k7, c7, A8, _, c8, by omega, by go_num, rfl, rfl, by rw [frs_snoc _ _ _ _ HL.out]; exact OA8.out, by rw [wants_snoc _ _ _ HL.out]; exact OW8.out, hB8⟩
            case measure => simp [intOf]; omega
          · have htk : pcs.take j = pcs := List.take_of_length_le (by rw [HKP.out]; omega)
            have oa := OA.out
            have ow := OW.out
            rw [htk] at oa ow
            clear OA OW htk
            have OA := Lib.hid oa
            have OW := Lib.hid ow
            clear oa ow
            go_wp2_with (first
              | (at_builtin
                 refine wpList_append_b rfl (.tmp 78) (.tmp 79) rfl wr.heap.size (some ⟨wr.heap.size, 0, none⟩) 0 0 [] rfl (OwnB.made0 wr (Nat.le_refl _)) w3.heap.size A1 k1 c1 calm rfl ((HO.out.reads.below hbr4).alloc hws4 _) (by omega) (by simp) ?_
                 intro A5 k5 c5 w5 hk5 hk5' o5 hg5 _
                 have hb5 : Below wr.heap.size wr w5 := ((Below.refl _ _).alloc (Nat.le_refl _) _).grown hg5 (by simp) (by simp [Value.ownBlock])
                 have hs5 := hb5.size
                 have O5 : Hid (OwnB w5 wr.heap.size A5 k5 c5 calm) := Lib.hid (show OwnB w5 wr.heap.size A5 k5 c5 calm from o5)
                 clear hg5 o5)
              | (at_builtin
                 refine wpList_append_b rfl (.tmp 80) (.tmp 81) rfl wr.heap.size A5 k5 c5 _ rfl O5.out wr.heap.size Aa ka ca (frs calm pcs) rfl (OA.out.reads.below hb5) (by omega) (by omega) ?_
                 intro A6 k6 c6 w6 hk6 hk6' o6 hg6 _
                 have hb6 : Below wr.heap.size wr w6 := hb5.grown hg6 (by omega) (fun g hg => (O5.out.lt g hg).1)
                 have hs6 := hb6.size
                 have bd6 := o6.bounds
                 have HAL := Lib.hid (all0 (scan_all calm HCM.out pcs) w6.heap.size A6 k6 c6 w6 o6.reads (Nat.le_refl _) bd6.1 bd6.2 (by omega))
                 clear hg6 o6 bd6)
              | (go_at_call 39; (with_reducible refine HAL.out.mono ?_); rintro e w7 ⟨A7, k7, c7, rfl, o7, hb7⟩
                 have hb7' : Below wr.heap.size wr w7 := hb6.trans (hb7.mono hs6)
                 have ow7 := OW.out.blw hb7'
                 obtain rfl : kw = k7 := ow7.length.symm.trans o7.length
                 obtain ⟨vw, ovw, ivw⟩ := ow7
                 obtain ⟨v7, ov7, iv7⟩ := o7
                 have HSM := Lib.hid (same07_refl w7 A7 Aw kw c7 cw _ _ _ _ _ _ _ (Reads.of_own ov7) iv7 (Reads.of_own ovw) ivw (by unfold maxLen; omega))
                 clear ovw ivw ov7 iv7)
              | (go_at_call 40; (with_reducible refine HSM.out.mono ?_); rintro e w8 ⟨rfl, hb8⟩))
            go_ret
            exact ⟨rfl, hB2.trans ((hB24.trans ((hb7'.trans (hb8.mono hb7'.size)).mono hB24.size)).mono hB2.size)⟩
end Go.Proofs.Ytmjoikjkmdbleaa
