/- The walk of the law StreamCuts. -/
import Derived.Test.YtmjoikjkmdbleaaStL
namespace Go.Proofs.Ytmjoikjkmdbleaa
open Go.RowKit Crc Fr St
set_option linter.unusedVariables false

theorem slice_lh_any (A : Option Addr) (n c lo hi : Nat) (w : World) (L H : Int) (hL : L = lo) (hH : H = hi) (h1 : lo ≤ hi) (h2 : hi ≤ c) (h3 : lo < c) :
    (Instr.slice 22 (.slice A n c) (some (.int .i64 L)) (some (.int .i64 H)) none).run Try.prog w = .ok (.slice (A.map (·.add lo)) (hi - lo) (c - lo)) w := by
  subst hL hH
  rw [run_slice_lh w 22 _ n c elem22 .i64 .i64 lo hi (by omega) (by omega) (by omega), size22]
  simp only [Result.andThen, sliced, Int.toNat_natCast]
  rcases A with _ | ad <;> simp [show c ≠ lo by omega]

/-- What stood in W below its end stands in w, but for blocks x and y. -/
def Agr (W w : World) (x y : Nat) : Prop := W.heap.size ≤ w.heap.size ∧ ∀ p, p < W.heap.size → p ≠ x → p ≠ y → w.heap[p]? = W.heap[p]?
theorem Agr.refl (W : World) (x y : Nat) : Agr W W x y := ⟨Nat.le_refl _, fun _ _ _ _ => rfl⟩
theorem Agr.grown {W w w' : World} {x y : Nat} {row : Option Nat} (h : Agr W w x y) (hg : w.grownBy w' row) (hr : ∀ g, row = some g → g = x ∨ g = y ∨ W.heap.size ≤ g) : Agr W w' x y :=
  ⟨Nat.le_trans h.1 hg.size, fun p hp hx hy => (hg.block p (Nat.lt_of_lt_of_le hp h.1) (fun e => by rcases hr p e.symm with e | e | e <;> omega)).trans (h.2 p hp hx hy)⟩
theorem Agr.below {W w w' : World} {x y : Nat} (h : Agr W w x y) (hb : Below w.heap.size w w') : Agr W w' x y :=
  ⟨Nat.le_trans h.1 hb.size, fun p hp hx hy => (hb.block p (Nat.lt_of_lt_of_le hp h.1)).trans (h.2 p hp hx hy)⟩

theorem OwnI.keptI {w w' : World} {base base' base2 : Nat} {good2 : Nat → Prop} {A A2 : Option Addr} {k c k2 c2 : Nat} {its its2 : List It} (h : OwnI w base (g5 w base') A k c its) (ho : OwnI w base2 good2 A2 k2 c2 its2)
    (hg : w.grownBy w' (Value.slice A2 k2 c2).ownBlock) (hne : ∀ g, (Value.slice A k c).ownBlock = some g → (Value.slice A2 k2 c2).ownBlock ≠ some g) : OwnI w' base (g5 w' base') A k c its :=
  h.keep hg.size (fun g hgg hlt => hg.block g hlt (fun e => hne g hgg e.symm)) (fun p hp hlt => hg.block p hlt (ho.g5ne hp)) (fun p hp _ => hp.grown hg (ho.g5ne hp))
theorem Strm.keptI {w w' : World} {base base2 g : Nat} {rest : List UInt8} {good2 : Nat → Prop} {A2 : Option Addr} {k2 c2 : Nat} {its2 : List It} (h : Strm w base g rest) (ho : OwnI w base2 good2 A2 k2 c2 its2)
    (hg : w.grownBy w' (Value.slice A2 k2 c2).ownBlock) (hlt : g < base2) : Strm w' base g rest := by
  obtain ⟨h1, h2, A0, k0, c0, h3, h4⟩ := h
  have e := hg.block g h1 (fun e => by have := (ho.lt e.symm).1; omega)
  exact ⟨by have := hg.size; omega, (World.frozen?_of_block e).trans h2, A0, k0, c0, (World.cell?_of_block e).trans h3, h4.keptI ho hg⟩
theorem OwnI.agr {W w : World} {base base' base2 x y : Nat} {good2 : Nat → Prop} {A : Option Addr} {k c kb cb : Nat} {its itsb : List It} (h : OwnI W base (g5 W base') A k c its) (hb : OwnI W base2 good2 (some ⟨y, 0, none⟩) kb cb itsb)
    (ha : Agr W w x y) (hx1 : x < base) (hx2 : x < base') (hne : (Value.slice A k c).ownBlock ≠ some y) : OwnI w base (g5 w base') A k c its := by
  have e1 : ∀ p, g5 W base' p → w.heap[p]? = W.heap[p]? := fun p hp => ha.2 p hp.lt (by have := hp.1; omega) (fun e => hb.g5ne hp (by rw [e]; rfl))
  exact h.keep ha.1 (fun g hg hlt => ha.2 g hlt (by have := (h.lt hg).1; omega) (fun e => hne (by rw [hg, e]))) (fun p hp _ => e1 p hp) (fun p hp _ => g5.of_eq hp (e1 p hp))

/-- An append of a row of items of the call's own. -/
theorem wpList_append_o {w : World} {ops : Array Oper} {rest : List Oper} {o : Oper} {a : Act} {Q : Exit → Act → World → Prop} (hgd : o.guard = none) (s x : Operand)
    (ho : o.op = .call { callee := .builtin .append, args := #[s, x], argTypes := #[47, 47] })
    (base : Nat) (A : Option Addr) (k c : Nat) (l : List It) (hs : a.eval s = .slice A k c) (hown : OwnI w base (g5 w base) A k c l)
    (base2 : Nat) (A2 : Option Addr) (m c2 : Nat) (news : List It) (hx : a.eval x = .slice A2 m c2) (hn : OwnI w base2 (g5 w base2) A2 m c2 news) (hb2 : base ≤ base2)
    (hbd : k + m ≤ 1000000000) (hbase : base ≤ w.heap.size)
    (h : ∀ (A' : Option Addr) (c' : Nat) (w' : World), OwnI w' base (g5 w' base) A' (k + m) c' (l ++ news) → w.grownBy w' (Value.slice A k c).ownBlock →
      ((Value.slice A' (k + m) c').ownBlock = (Value.slice A k c).ownBlock ∨ (Value.slice A' (k + m) c').ownBlock = some w.heap.size) →
      wpList Try.prog ops Q rest (a.put o.dst (.slice A' (k + m) c')) w') : wpList Try.prog ops Q (o :: rest) a w := by
  obtain ⟨nvs, h1, h2⟩ := hn
  refine wpList_append_i hgd s x ho base (g5 w base) A k c l hs hown w.heap.size A2 m c2 news nvs hx (Reads.of_own h1) (h2.keep (Nat.le_refl _) (fun _ _ _ => rfl) (fun p hp => ⟨Nat.le_trans hb2 hp.1, hp.2⟩)) (fun p hp => hown.g5ne hp) hbd hbase ?_
  intro A' c' w' h3 h4 h5
  exact h A' c' w' (h3.keep (Nat.le_refl _) (fun _ _ _ => rfl) (fun _ _ _ => rfl) (fun p hp _ => hp.grown h4 (hown.g5ne hp))) h4 h5

theorem item_le (f : Fr.Fd) : (item f).length ≤ 1 := by
  unfold item
  split
  · simp
  · split <;> simp
theorem scan_items_aux (n : Nat) : ∀ l : List UInt8, l.length ≤ n → (scan l).1.length ≤ l.length := by
  induction n with
  | zero =>
    intro l h
    obtain rfl : l = [] := List.eq_nil_of_length_eq_zero (by omega)
    rw [scan_nil]; simp
  | succ n ih =>
    intro l h
    by_cases h0 : (Fr.next l).kind = 0
    · rw [scan_wait h0]; simp
    · have hs := goes_size l h0
      have h1 := ih (l.drop (Fr.next l).size) (by simp; omega)
      have h2 := item_le (Fr.next l)
      rw [scan_step h0, List.length_append]
      simp at h1 ⊢
      omega
theorem scan_items (l : List UInt8) : (scan l).1.length ≤ l.length := scan_items_aux l.length l (Nat.le_refl _)
theorem scan_more (acc x : List UInt8) : scan (acc ++ x) = ((scan acc).1 ++ (scan ((scan acc).2 ++ x)).1, (scan ((scan acc).2 ++ x)).2) := scan_append acc x

theorem rest_same (w : World) (g : Nat) (A : Option Addr) (k c : Nat) (h : w.cell? ⟨g, 0, none⟩ = some (.slice A k c)) : Calls Try.prog 41 #[.pointer (some ⟨g, 0, none⟩)] w fun e w' => e = .returned (.int .i64 (k : Int)) ∧ w = w' :=
  (rest_any w g A k c h).mono fun e w' ⟨h1, h2⟩ => ⟨h1, h2.symm⟩
def stp50 (u : UInt8) : Nat := 1 + u.toNat % 50
theorem stp50_le (u : UInt8) : stp50 u ≤ 50 := by unfold stp50; omega
theorem stp50_pos (u : UInt8) : 0 < stp50 u := by unfold stp50; omega
theorem stp50_eq : ∀ u : UInt8, wrap64 (1 + (wrap64 (u.toNat : Int)).tmod 50) = (stp50 u : Int) := by
  intro u
  have hu255 : u.toNat < 256 := u.toNat_lt
  rw [IntWalk.wrap64_in (u.toNat : Int) ⟨by omega, by omega⟩, Int.tmod_eq_emod_of_nonneg (by omega), IntWalk.wrap64_in _ ⟨by omega, by omega⟩]
  unfold stp50
  omega
theorem chunk_eq (AL : List UInt8) (P N Q kl : Nat) (hl : AL.length = kl) (hP : P ≤ Q) (hQ : Q = P + N ∨ (Q = kl ∧ kl ≤ P + N)) : AL.take (P + N) = AL.take P ++ (AL.drop P).take (Q - P) := by
  rw [List.take_add]
  rcases hQ with h | ⟨h, h2⟩
  · rw [h, Nat.add_sub_cancel_left]
  · have e1 : (AL.drop P).take (Q - P) = AL.drop P := List.take_of_length_le (by rw [List.length_drop]; omega)
    have e2 : (AL.drop P).take N = AL.drop P := List.take_of_length_le (by rw [List.length_drop]; omega)
    rw [e1, e2]
theorem min_cases (a b : Nat) : ∃ Q : Nat, (if (b : Int) < (a : Int) then (b : Int) else (a : Int)) = (Q : Int) ∧ Q ≤ a ∧ Q ≤ b ∧ (Q = a ∨ (Q = b ∧ b ≤ a)) := by
  by_cases h : b < a
  · exact ⟨b, by rw [if_pos (by omega)], by omega, by omega, .inr ⟨rfl, by omega⟩⟩
  · exact ⟨a, by rw [if_neg (by omega)], by omega, by omega, .inl rfl⟩

set_option maxRecDepth 100000 in
set_option maxHeartbeats 4000000 in
theorem cuts_walk (A Bm : Option Addr) (n m c d : Nat) (ls : List (List UInt8)) (vs : List Value) (y : List UInt8) (w : World) (hx : Reads w w.heap.size 1 A n vs) (hs : Sls w w.heap.size ls vs) (hy : Reads w w.heap.size 1 Bm m (y.map bv))
    (hn : n ≤ c) (hc : c ≤ maxLen) (hm : m ≤ d) (hd : d ≤ maxLen) :
    Calls Try.prog 14 #[.slice A n c, .slice Bm m d] w fun e w' => e = .returned (.bool true) ∧ Below w.heap.size w w' := by
  have hpl := fewOf_length ls
  have hpe := fewOf_each ls
  have hnm : n ≤ maxLen := by omega
  have hlx : y.length = m := by simpa using hy.1
  have HLX := Lib.hid hlx
  have HX := Lib.hid hx
  have HS := Lib.hid hs
  have HY := Lib.hid hy
  have HNM := Lib.hid hnm
  unfold maxLen at hc hd
  clear hx hs hy hnm hlx
  obtain ⟨pcs, hpc⟩ : ∃ pcs, pcs = fewOf ls 20 := ⟨_, rfl⟩
  rw [← hpc] at hpl hpe
  have HPC := Lib.hid hpc
  have HPL := Lib.hid hpl
  have HPE := Lib.hid hpe
  clear hpc hpl hpe
  go_enter Try.func14, Try.ntmps14
  go_wp2_with (first
    | (go_at_call 34; (with_reducible refine (shown07_any _).mono ?_); rintro e w1 ⟨rfl, hb1⟩; have hs1 := hb1.size)
    | (go_at_call 35; (with_reducible refine (few7_any w.heap.size A n c ls vs w1 (HX.out.below hb1) (HS.out.below hb1) hs1 HNM.out).mono ?_); rintro e w2 ⟨Ap, kp, cp, rfl, op, hb2⟩
       have hs2 := hb2.size
       have hB2 := hb1.trans (hb2.mono hs1)
       rw [← HPC.out] at op
       have hkp := op.length
       have HKP := Lib.hid hkp
       have hkp20 : kp ≤ 20 := (by have := HPL.out; omega)
       obtain ⟨vp, hrp, hsp⟩ := op.reads
       have HRP := Lib.hid hrp
       have HSP := Lib.hid hsp
       have HJ := Lib.hid (joined7_any w2.heap.size Ap kp cp pcs vp w2 hrp (hsp.more (by omega)) (Nat.le_refl _) hkp20 HPE.out)
       clear op hrp hsp hkp)
    | (go_at_call 36; (with_reducible refine HJ.out.mono ?_); rintro e w3 ⟨Al, kl, cl, rfl, oj, hb3⟩
       have hs3 := hb3.size
       have hB3 := hB2.trans (hb3.mono hB2.size)
       have hkl := oj.length
       have hfl := few_flat pcs HPE.out HPL.out 20
       rw [List.take_of_length_le HPL.out] at hfl
       have HKL := Lib.hid hkl
       have hkl2 : kl ≤ 2000 := (by omega)
       have bdl := oj.bounds
       have HAL := Lib.hid oj.reads
       clear oj hkl hfl)
    | (go_at_call 37; (with_reducible refine (new_any _).mono ?_); rintro e w' ⟨rfl, rfl⟩))
  obtain ⟨hkc, hcm⟩ := bdl
  unfold maxLen at hcm
  go_loopw [10, 12] (fun v u wr => ∃ (i : Nat) (Aa : Option Addr) (ka ca : Nat), i ≤ kp ∧ u = .int .i64 i ∧ v = .slice Aa ka ca ∧ Below w3.heap.size w3 wr ∧ w3.heap.size + 4 ≤ wr.heap.size ∧
      Strm wr (w3.heap.size + 2) w3.heap.size (scan (pcs.take i).flatten).2 ∧ Strm wr (w3.heap.size + 2) (w3.heap.size + 1) [] ∧
      OwnI wr (w3.heap.size + 2) (g5 wr (w3.heap.size + 2)) Aa ka ca (scan (pcs.take i).flatten).1 ∧ (Value.slice Aa ka ca).ownBlock ≠ some (w3.heap.size + 3) ∧
      OwnI wr (w3.heap.size + 2) (g5 wr (w3.heap.size + 2)) (some ⟨w3.heap.size + 3, 0, none⟩) 0 0 []) (fun _ u _ => kp - (intOf u).toNat)
  case atStart =>
    refine ⟨0, _, _, _, by omega, rfl, rfl, ((((Below.refl _ _).alloc (Nat.le_refl _) _).alloc (by simp) _).alloc (by simp; omega) _).alloc (by simp; omega) _, by simp, ?_, ?_, ?_, by simp [Value.ownBlock], ?_⟩
    · rw [List.take_zero, List.flatten_nil, scan_nil]
      exact (((Strm.new w3 _).belw ((Below.refl _ _).alloc (Nat.le_refl _) _)).belw ((Below.refl _ _).alloc (Nat.le_refl _) _)).belw ((Below.refl _ _).alloc (Nat.le_refl _) _)
    · have := Strm.new (w3.alloc (.cells #[.slice none 0 0] 60)) (w3.heap.size + 2)
      simpa using (this.belw ((Below.refl _ _).alloc (Nat.le_refl _) (.cells #[] 55))).belw ((Below.refl _ _).alloc (Nat.le_refl _) (.cells #[] 55))
    · rw [List.take_zero, List.flatten_nil, scan_nil]
      simpa using (OwnI.made0 ((w3.alloc (.cells #[.slice none 0 0] 60)).alloc (.cells #[.slice none 0 0] 60)) (base := w3.heap.size + 2) (good := g5 _ _) (by simp)).belw ((Below.refl _ _).alloc (Nat.le_refl _) (.cells #[] 55))
    · simpa using OwnI.made0 (((w3.alloc (.cells #[.slice none 0 0] 60)).alloc (.cells #[.slice none 0 0] 60)).alloc (.cells #[] 55)) (base := w3.heap.size + 2) (good := g5 _ _) (by simp)
  case round =>
    obtain ⟨i, Aa, ka, ca, hi, rfl, rfl, hbr, hsz, s1, t1, oa, hne, ob⟩ := hrel
    have hws := hbr.size
    have S1 := Lib.hid s1
    have T1 := Lib.hid t1
    have OA := Lib.hid oa
    have OB := Lib.hid ob
    have HNE := Lib.hid hne
    have hka : ka ≤ 2000 := by have h1 := oa.length; have h2 := scan_items (pcs.take i).flatten; have h3 := few_flat pcs HPE.out HPL.out i; omega
    clear s1 t1 oa ob hne
    by_cases hlt : i < kp
    · obtain ⟨l, hl⟩ : ∃ l, pcs[i]? = some l := ⟨pcs[i]'(by rw [HKP.out]; exact hlt), List.getElem?_eq_getElem _⟩
      obtain ⟨X, kx, cx, hx1, hx2, hx3, hx4⟩ := HSP.out.2 i l hl
      obtain ⟨b, off, rfl, hbb, hcc⟩ := HRP.out.open1 (by omega)
      have hB23 : Below w2.heap.size w2 wr := hb3.trans (hbr.mono hs3)
      have f1 : wr.cell? ⟨b, off + i, none⟩ = some (.slice X kx cx) := cell_below hB23 (hcc i _ hx1) hbb
      have hlx : l.length = kx := by simpa using hx4.1
      have hkx : kx ≤ 100 := by have h1 := HPE.out l (List.mem_of_getElem? hl); omega
      have HX4 := Lib.hid (hx4.below (hB23.mono (by omega)))
      obtain ⟨itn, hitn⟩ : ∃ itn, itn = (scan ((scan (pcs.take i).flatten).2 ++ l)).1 := ⟨_, rfl⟩
      have hsc : scan ((scan (pcs.take i).flatten).2 ++ l) = (itn, (scan (pcs.take (i + 1)).flatten).2) := by
        rw [joined_snoc _ _ _ hl, ← scan_go, hitn]
      have hits : (scan (pcs.take (i + 1)).flatten).1 = (scan (pcs.take i).flatten).1 ++ itn := by
        rw [joined_snoc _ _ _ hl, scan_more, hitn]
      have hcnt : itn.length ≤ 137 := by
        have h1 := scan_items ((scan (pcs.take i).flatten).2 ++ l)
        have h2 := left_short (pcs.take i).flatten
        rw [← hitn, List.length_append] at h1
        omega
      have HITS := Lib.hid hits
      have HCNT := Lib.hid hcnt
      have HC := Lib.hid (S1.out.takeN w.heap.size X kx cx l HX4.out (by omega) (by omega) (left_short _) hsc)
      clear hl hx1 hx4 hcc hsc hits hitn hcnt hlx
      go_wp2_with (first
        | (go_at_call 38; (with_reducible refine HC.out.mono ?_); rintro e w4 ⟨A4, k4, c4, rfl, o4, s4, hg4⟩
           have hs4 := hg4.size
           have hk4 : k4 ≤ 137 := (by have h1 := o4.length; have h2 := HCNT.out; omega)
           have hB4 : Below w3.heap.size w3 w4 := below_grownS hbr hg4 hws (Nat.le_refl _)
           have S4 := Lib.hid (s4.mono (base' := w3.heap.size + 2) (by omega))
           have O4 := Lib.hid o4
           have OA4 := Lib.hid (OA.out.keptG hg4 (by omega) (by omega))
           have OB4 := Lib.hid (OB.out.keptG hg4 (by omega) (by omega))
           have T4 := Lib.hid (T1.out.keptG hg4 (by omega) (by omega))
           clear o4 s4 hg4)
        | (at_builtin
           refine wpList_append_o rfl (.tmp 45) (.tmp 51) rfl (w3.heap.size + 2) Aa ka ca _ rfl OA4.out wr.heap.size A4 k4 c4 _ rfl O4.out (by omega) (by omega) (by omega) ?_
           intro A5 c5 w5 o5 hg5 hat5
           have hs5 := hg5.size
           have hB5 : Below w3.heap.size w3 w5 := hB4.grown hg5 (by omega) (fun g hg => by have := (OA4.out.lt hg).1; omega)
           have S5 := Lib.hid (S4.out.keptI OA4.out hg5 (by omega))
           have T5 := Lib.hid (T4.out.keptI OA4.out hg5 (by omega))
           have OB5 := Lib.hid (OB4.out.keptI OA4.out hg5 (fun g hgg e => by
             have : g = w3.heap.size + 3 := (by simpa [Value.ownBlock] using hgg.symm)
             exact HNE.out (by rw [e, this])))
           have HN5 : Hid ((Value.slice A5 (ka + k4) c5).ownBlock ≠ some (w3.heap.size + 3)) := Lib.hid (fun e => by
             rcases hat5 with h | h
             · exact HNE.out (h.symm.trans e)
             · rw [h] at e; injection e with e; omega)
           have O5 := Lib.hid o5
           clear o5 hg5 hat5))
      go_roundw
      case rel => exact ⟨i + 1, A5, _, c5, by omega, by go_num, rfl, hB5, by omega, S5.out, T5.out, by rw [HITS.out]; exact O5.out, HN5.out, OB5.out⟩
      case measure => simp [intOf]; omega
    · have htk : (pcs.take i).flatten = pcs.flatten := by rw [List.take_of_length_le (by rw [HKP.out]; omega)]
      have s1 := S1.out
      have oa := OA.out
      rw [htk] at s1 oa
      generalize pcs.flatten = AL at *
      have S1' := Lib.hid s1
      have OA' := Lib.hid oa
      clear htk s1 oa S1 OA
      go_wp2
      generalize hw4 : wr = W4 at *
      clear hw4
      go_loopw [11, 13, 14] (fun vb vp vi wr => ∃ (P I : Nat) (Ab : Option Addr) (kb cb : Nat), P ≤ 2050 ∧ I ≤ P ∧ vp = .int .i64 P ∧ vi = .int .i64 I ∧ vb = .slice Ab kb cb ∧ (∀ g, (Value.slice Ab kb cb).ownBlock = some g → g = w3.heap.size + 3 ∨ W4.heap.size ≤ g) ∧
        OwnI wr (w3.heap.size + 2) (g5 wr (w3.heap.size + 2)) Ab kb cb (scan (AL.take P)).1 ∧ Strm wr (w3.heap.size + 2) (w3.heap.size + 1) (scan (AL.take P)).2 ∧ Agr W4 wr (w3.heap.size + 1) (w3.heap.size + 3) ∧ Below w3.heap.size w3 wr) (fun _ vp _ _ => kl - (intOf vp).toNat)
      case atStart =>
        refine ⟨0, 0, _, _, _, by omega, by omega, rfl, rfl, rfl, fun g e => .inl (by simpa [Value.ownBlock] using e.symm), ?_, ?_, Agr.refl _ _ _, hbr⟩
        · rw [List.take_zero, scan_nil]; exact OB.out
        · rw [List.take_zero, scan_nil]; exact T1.out
      case round =>
        obtain ⟨P, I, Ab, kb, cb, hP, hI, rfl, rfl, rfl, bo, ob2, t2, ag, hbr2⟩ := hrel
        have hws2 := hbr2.size
        have hW4 := ag.1
        have BO := Lib.hid bo
        have OB2 := Lib.hid ob2
        have T2 := Lib.hid t2
        have AG := Lib.hid ag
        have hkb : kb ≤ 2050 := by have h1 := ob2.length; have h2 := scan_items (AL.take P); have h3 := List.length_take_le P AL; omega
        clear bo ob2 t2 ag
        by_cases hltP : P < kl
        · by_cases hm0 : m = 0
          · subst hm0
            have hchunk := chunk_eq AL P 1 (P + 1) kl HKL.out (by omega) (.inl rfl)
            rw [show P + 1 - P = 1 by omega] at hchunk
            have hPN : P + 1 ≤ 2050 := by omega
            have hlc : ((AL.drop P).take 1).length = 1 := by rw [List.length_take, List.length_drop, HKL.out]; omega
            have hread : Reads wr w3.heap.size 1 (Al.map (·.add P)) 1 (((AL.drop P).take 1).map bv) := by
              have h1 := Reads.cut (k := P) (HAL.out.below hbr2) (by omega) hkc
              rw [Nat.mul_one, ← List.map_drop, if_neg (by omega)] at h1
              exact h1.bytesTake (by omega)
            generalize (AL.drop P).take 1 = chunk at hchunk hlc hread
            obtain ⟨itn, hitn⟩ : ∃ itn, itn = (scan ((scan (AL.take P)).2 ++ chunk)).1 := ⟨_, rfl⟩
            have hsc : scan ((scan (AL.take P)).2 ++ chunk) = (itn, (scan (AL.take (P + 1))).2) := by rw [hchunk, ← scan_go, hitn]
            have hits : (scan (AL.take (P + 1))).1 = (scan (AL.take P)).1 ++ itn := by rw [hchunk, scan_more, hitn]
            have hcnt : itn.length ≤ 90 := by
              have h1 := scan_items ((scan (AL.take P)).2 ++ chunk)
              have h2 := left_short (AL.take P)
              rw [← hitn, List.length_append] at h1
              omega
            have HSC := Lib.hid hsc
            have HITS := Lib.hid hits
            have HCNT := Lib.hid hcnt
            have HRD := Lib.hid hread
            have hq50 : chunk.length ≤ 51 := by omega
            have hq0 : 0 < chunk.length := by omega
            have HQ50 := Lib.hid hq50
            have HQ0 := Lib.hid hq0
            clear hchunk hitn hsc hits hcnt hread hlc hq50 hq0
            go_wp2_with (first
              | (at_builtin
                 refine wpList_append_b rfl (.tmp 72) (.tmp 81) rfl wr.heap.size (some ⟨wr.heap.size, 0, none⟩) 0 0 [] rfl (OwnB.made0 wr (Nat.le_refl _)) w3.heap.size (Al.map (·.add P)) 1 (cl - P) chunk (by rfl) (HRD.out.alloc hws2 _) (by omega) (by simp) ?_
                 intro A5 k5 c5 w5 hk5 hk5' o5 hg5 _
                 have hb5 : Below wr.heap.size wr w5 := ((Below.refl _ _).alloc (Nat.le_refl _) _).grown hg5 (by simp) (by simp [Value.ownBlock])
                 have hs5 := hb5.size
                 have hk5l : chunk.length = k5 := o5.length
                 have hk50 : 0 < k5 := (by have := HQ0.out; omega)
                 have hk51 : k5 ≤ 51 := (by have := HQ50.out; omega)
                 clear hk5l
                 obtain ⟨G, u5, rfl, hG, hG', -, -, -⟩ := o5.get (i := 0) (by omega)
                 have O5 : Hid (OwnB w5 wr.heap.size (some ⟨G, 0, none⟩) k5 c5 chunk) := Lib.hid (show OwnB w5 wr.heap.size (some ⟨G, 0, none⟩) k5 c5 chunk from o5)
                 have hB5 : Below w3.heap.size w3 w5 := hbr2.trans (hb5.mono hws2)
                 have T5 := Lib.hid (T2.out.belw hb5)
                 have AG5 := Lib.hid (AG.out.below hb5)
                 have OB5 := Lib.hid (show OwnI w5 (w3.heap.size + 2) (fun p => g5 w5 (w3.heap.size + 2) p ∧ p ≠ G) Ab kb cb (scan (AL.take P)).1 from
                   OB2.out.keep hs5 (fun g _ hlt => hb5.block g hlt) (fun p _ hlt => hb5.block p hlt) (fun p hp hlt => ⟨hp.belw hb5, by omega⟩))
                 clear hg5 o5)
              | (go_at_call 38; (with_reducible refine (T5.out.takeN w5.heap.size (some ⟨G, 0, none⟩) k5 c5 chunk O5.out.reads (Nat.le_refl _) (by omega) (left_short _) HSC.out).mono ?_); rintro e w6 ⟨A6, k6, c6, rfl, o6, t6, hg6⟩
                 have hs6 := hg6.size
                 have hk6 : k6 ≤ 90 := (by have h1 := o6.length; have h2 := HCNT.out; omega)
                 have hB6 : Below w3.heap.size w3 w6 := below_grownS hB5 hg6 (by omega) (by omega)
                 have O6 := Lib.hid (O5.out.keptG hg6 (by omega))
                 have AG6 := Lib.hid (AG5.out.grown hg6 (fun g e => by injection e with e; exact .inl e.symm))
                 have OB6 := Lib.hid (show OwnI w6 (w3.heap.size + 2) (fun p => g5 w6 (w3.heap.size + 2) p ∧ p ≠ G) Ab kb cb (scan (AL.take P)).1 from
                   OB5.out.keep hs6 (fun g hg hlt => hg6.block g hlt (fun e => by injection e with e; have := (OB5.out.lt hg).1; omega)) (fun p hp hlt => hg6.block p hlt (fun e => by injection e with e; have := hp.1.1; omega))
                     (fun p hp hlt => ⟨hp.1.of_eq (hg6.block p hlt (fun e => by injection e with e; have := hp.1.1; omega)), hp.2⟩))
                 have T6 := Lib.hid t6
                 obtain ⟨v6, ov6, iv6⟩ := o6
                 have HV6 := Lib.hid (Reads.of_own ov6)
                 have IV6 := Lib.hid (show Its w6 (fun p => g5 w6 (w3.heap.size + 2) p ∧ p ≠ G) itn v6 from iv6.keep (Nat.le_refl _) (fun _ _ _ => rfl) (fun p hp => ⟨⟨by have := hp.1; omega, hp.2⟩, by have := hp.1; omega⟩))
                 clear ov6 iv6 t6 hg6)
              | (at_builtin
                 refine wpList_append_i rfl (.tmp 83) (.tmp 86) rfl (w3.heap.size + 2) (fun p => g5 w6 (w3.heap.size + 2) p ∧ p ≠ G) Ab kb cb _ rfl OB6.out w6.heap.size A6 k6 c6 itn v6 rfl HV6.out IV6.out (fun p hp => OB6.out.g5ne hp.1) (by omega) (by omega) ?_
                 intro A7 c7 w7 o7 hg7 hat7
                 have hs7 := hg7.size
                 have hB7 : Below w3.heap.size w3 w7 := hB6.grown hg7 (by omega) (fun g hg => by have := (OB6.out.lt hg).1; omega)
                 have O7 := Lib.hid (O6.out.keptI OB6.out hg7)
                 have T7 := Lib.hid (T6.out.keptI OB6.out hg7 (by omega))
                 have AG7 := Lib.hid (AG6.out.grown hg7 (fun g e => .inr (BO.out g e)))
                 have BO7 : Hid (∀ g, (Value.slice A7 (kb + k6) c7).ownBlock = some g → g = w3.heap.size + 3 ∨ W4.heap.size ≤ g) := Lib.hid (fun g e => by
                   rcases hat7 with h | h
                   · exact BO.out g (h.symm.trans e)
                   · rw [h] at e; injection e with e; right; have := AG6.out.1; omega)
                 have OB7 := Lib.hid (show OwnI w7 (w3.heap.size + 2) (fun p => g5 w7 (w3.heap.size + 2) p ∧ p ≠ G) A7 (kb + k6) c7 ((scan (AL.take P)).1 ++ itn) from
                   o7.keep (Nat.le_refl _) (fun _ _ _ => rfl) (fun _ _ _ => rfl) (fun p hp _ => ⟨hp.1.grown hg7 (OB6.out.g5ne hp.1), hp.2⟩))
                 clear hg7 o7 hat7))
            go_loopw [17] (fun u wk => ∃ (k : Nat) (lx : List UInt8), k ≤ k5 ∧ u = .int .i64 k ∧ OwnB wk wr.heap.size (some ⟨G, 0, none⟩) k5 c5 lx ∧ w7.grownBy wk (some G)) (fun u _ => k5 - (intOf u).toNat)
            case atStart => exact ⟨0, chunk, by omega, rfl, O7.out, World.grownBy.refl _ _⟩
            case round =>
              obtain ⟨k, lx, hk, rfl, ox, hgx⟩ := hrel
              by_cases hk5 : k < k5
              · obtain ⟨u', hu'⟩ : ∃ u', lx[k]? = some u' := ⟨lx[k]'(by rw [ox.length]; exact hk5), List.getElem?_eq_getElem _⟩
                obtain ⟨q1, q2⟩ := ox.get' hk5 hu'
                have OX := Lib.hid ox
                have HGX := Lib.hid hgx
                clear hu' ox hgx
                go_wp2
                go_roundw
                case rel => exact ⟨k + 1, lx.set k 165, by omega, by go_num, OwnB.set_ OX.out hk5 165 rfl, HGX.out.trans (grownBy_setCell _ _ _)⟩
                case measure => simp [intOf]; omega
              · have hGg := (O7.out.g5 (g := G) rfl)
                have OBk := Lib.hid (show OwnI wr (w3.heap.size + 2) (g5 wr (w3.heap.size + 2)) A7 (kb + k6) c7 (scan (AL.take (P + 1))).1 from by
                  rw [HITS.out]
                  exact OB7.out.keep hgx.size (fun g hg hlt => hgx.block g hlt (fun e => OB7.out.g5ne hGg (by rw [hg]; exact e.symm))) (fun p hp hlt => hgx.block p hlt (fun e => hp.2 (by injection e)))
                    (fun p hp hlt => hp.1.of_eq (hgx.block p hlt (fun e => hp.2 (by injection e)))))
                have Tk := Lib.hid ((T7.out.keptG hgx (by omega) hG').mono (base' := w3.heap.size + 2) (by omega))
                have AGk := Lib.hid (AG7.out.grown hgx (fun g e => by injection e with e; right; right; omega))
                have hBk : Below w3.heap.size w3 wr := hB7.grown hgx (by omega) (fun g e => by injection e with e; omega)
                clear hGg hgx ox
                go_wp2
                go_roundw
                case rel => exact ⟨P + 1, I + 1, A7, kb + k6, c7, hPN, by omega, by go_num, by go_num, rfl, BO7.out, OBk.out, Tk.out, AGk.out, hBk⟩
                case measure => simp [intOf]; omega
          · have hm1 : 0 < m := by omega
            obtain ⟨J, hJ⟩ : ∃ J, J = I % m := ⟨_, rfl⟩
            have hJm : J < m := by rw [hJ]; exact Nat.mod_lt _ hm1
            have hr1 : (I : Int) % (m : Int) = (J : Int) := by rw [hJ]; omega
            have hr2 : (I : Int).tmod (m : Int) = (J : Int) := by rw [Int.tmod_eq_emod_of_nonneg (by omega)]; exact hr1
            obtain ⟨bm, om, rfl, hbb, hcc⟩ := HY.out.open_ hm1
            obtain ⟨u, hu⟩ : ∃ u, y[J]? = some u := ⟨y[J]'(by rw [HLX.out]; exact hJm), List.getElem?_eq_getElem _⟩
            have f1 : wr.cell? ⟨bm, om + J, none⟩ = some (.int .u8 (u.toNat : Int)) := cell_below (hB3.trans (hbr2.mono hB3.size)) (hcc J u hu) hbb
            have hN3 := stp50_eq
            have hNb := stp50_le u
            have hN0 := stp50_pos u
            obtain ⟨Q, hmin', hQ1, hQ2, hQ3⟩ := min_cases (P + stp50 u) kl
            have hmin : (if (kl : Int) < (P : Int) + (stp50 u : Int) then (kl : Int) else (P : Int) + (stp50 u : Int)) = (Q : Int) := by rw [← hmin']; simp
            have hchunk := chunk_eq AL P (stp50 u) Q kl HKL.out (by omega) hQ3
            have hPQ : P < Q := by omega
            have hPN : P + stp50 u ≤ 2050 := by omega
            have hQc : Q ≤ cl := by omega
            clear hu hcc hJ hmin' hQ3
            have hlc : ((AL.drop P).take (Q - P)).length = (Q - P) := by rw [List.length_take, List.length_drop, HKL.out]; omega
            have hread : Reads wr w3.heap.size 1 (Al.map (·.add P)) (Q - P) (((AL.drop P).take (Q - P)).map bv) := by
              have h1 := Reads.cut (k := P) (HAL.out.below hbr2) (by omega) hkc
              rw [Nat.mul_one, ← List.map_drop, if_neg (by omega)] at h1
              exact h1.bytesTake (by omega)
            generalize (AL.drop P).take (Q - P) = chunk at hchunk hlc hread
            obtain ⟨itn, hitn⟩ : ∃ itn, itn = (scan ((scan (AL.take P)).2 ++ chunk)).1 := ⟨_, rfl⟩
            have hsc : scan ((scan (AL.take P)).2 ++ chunk) = (itn, (scan (AL.take (P + (stp50 u)))).2) := by rw [hchunk, ← scan_go, hitn]
            have hits : (scan (AL.take (P + (stp50 u)))).1 = (scan (AL.take P)).1 ++ itn := by rw [hchunk, scan_more, hitn]
            have hcnt : itn.length ≤ 90 := by
              have h1 := scan_items ((scan (AL.take P)).2 ++ chunk)
              have h2 := left_short (AL.take P)
              rw [← hitn, List.length_append] at h1
              omega
            have HSC := Lib.hid hsc
            have HITS := Lib.hid hits
            have HCNT := Lib.hid hcnt
            have HRD := Lib.hid hread
            have hq50 : chunk.length ≤ 51 := by omega
            have hq0 : 0 < chunk.length := by omega
            have HQ50 := Lib.hid hq50
            have HQ0 := Lib.hid hq0
            clear hchunk hitn hsc hits hcnt hread hlc hq50 hq0
            go_wp2_with (first
              | (at_builtin
                 refine wpList_append_b rfl (.tmp 72) (.tmp 81) rfl wr.heap.size (some ⟨wr.heap.size, 0, none⟩) 0 0 [] rfl (OwnB.made0 wr (Nat.le_refl _)) w3.heap.size (Al.map (·.add P)) (Q - P) (cl - P) chunk (by rfl) (HRD.out.alloc hws2 _) (by omega) (by simp) ?_
                 intro A5 k5 c5 w5 hk5 hk5' o5 hg5 _
                 have hb5 : Below wr.heap.size wr w5 := ((Below.refl _ _).alloc (Nat.le_refl _) _).grown hg5 (by simp) (by simp [Value.ownBlock])
                 have hs5 := hb5.size
                 have hk5l : chunk.length = k5 := o5.length
                 have hk50 : 0 < k5 := (by have := HQ0.out; omega)
                 have hk51 : k5 ≤ 51 := (by have := HQ50.out; omega)
                 clear hk5l
                 obtain ⟨G, u5, rfl, hG, hG', -, -, -⟩ := o5.get (i := 0) (by omega)
                 have O5 : Hid (OwnB w5 wr.heap.size (some ⟨G, 0, none⟩) k5 c5 chunk) := Lib.hid (show OwnB w5 wr.heap.size (some ⟨G, 0, none⟩) k5 c5 chunk from o5)
                 have hB5 : Below w3.heap.size w3 w5 := hbr2.trans (hb5.mono hws2)
                 have T5 := Lib.hid (T2.out.belw hb5)
                 have AG5 := Lib.hid (AG.out.below hb5)
                 have OB5 := Lib.hid (show OwnI w5 (w3.heap.size + 2) (fun p => g5 w5 (w3.heap.size + 2) p ∧ p ≠ G) Ab kb cb (scan (AL.take P)).1 from
                   OB2.out.keep hs5 (fun g _ hlt => hb5.block g hlt) (fun p _ hlt => hb5.block p hlt) (fun p hp hlt => ⟨hp.belw hb5, by omega⟩))
                 clear hg5 o5)
              | (go_at_call 38; (with_reducible refine (T5.out.takeN w5.heap.size (some ⟨G, 0, none⟩) k5 c5 chunk O5.out.reads (Nat.le_refl _) (by omega) (left_short _) HSC.out).mono ?_); rintro e w6 ⟨A6, k6, c6, rfl, o6, t6, hg6⟩
                 have hs6 := hg6.size
                 have hk6 : k6 ≤ 90 := (by have h1 := o6.length; have h2 := HCNT.out; omega)
                 have hB6 : Below w3.heap.size w3 w6 := below_grownS hB5 hg6 (by omega) (by omega)
                 have O6 := Lib.hid (O5.out.keptG hg6 (by omega))
                 have AG6 := Lib.hid (AG5.out.grown hg6 (fun g e => by injection e with e; exact .inl e.symm))
                 have OB6 := Lib.hid (show OwnI w6 (w3.heap.size + 2) (fun p => g5 w6 (w3.heap.size + 2) p ∧ p ≠ G) Ab kb cb (scan (AL.take P)).1 from
                   OB5.out.keep hs6 (fun g hg hlt => hg6.block g hlt (fun e => by injection e with e; have := (OB5.out.lt hg).1; omega)) (fun p hp hlt => hg6.block p hlt (fun e => by injection e with e; have := hp.1.1; omega))
                     (fun p hp hlt => ⟨hp.1.of_eq (hg6.block p hlt (fun e => by injection e with e; have := hp.1.1; omega)), hp.2⟩))
                 have T6 := Lib.hid t6
                 obtain ⟨v6, ov6, iv6⟩ := o6
                 have HV6 := Lib.hid (Reads.of_own ov6)
                 have IV6 := Lib.hid (show Its w6 (fun p => g5 w6 (w3.heap.size + 2) p ∧ p ≠ G) itn v6 from iv6.keep (Nat.le_refl _) (fun _ _ _ => rfl) (fun p hp => ⟨⟨by have := hp.1; omega, hp.2⟩, by have := hp.1; omega⟩))
                 clear ov6 iv6 t6 hg6)
              | (at_builtin
                 refine wpList_append_i rfl (.tmp 83) (.tmp 86) rfl (w3.heap.size + 2) (fun p => g5 w6 (w3.heap.size + 2) p ∧ p ≠ G) Ab kb cb _ rfl OB6.out w6.heap.size A6 k6 c6 itn v6 rfl HV6.out IV6.out (fun p hp => OB6.out.g5ne hp.1) (by omega) (by omega) ?_
                 intro A7 c7 w7 o7 hg7 hat7
                 have hs7 := hg7.size
                 have hB7 : Below w3.heap.size w3 w7 := hB6.grown hg7 (by omega) (fun g hg => by have := (OB6.out.lt hg).1; omega)
                 have O7 := Lib.hid (O6.out.keptI OB6.out hg7)
                 have T7 := Lib.hid (T6.out.keptI OB6.out hg7 (by omega))
                 have AG7 := Lib.hid (AG6.out.grown hg7 (fun g e => .inr (BO.out g e)))
                 have BO7 : Hid (∀ g, (Value.slice A7 (kb + k6) c7).ownBlock = some g → g = w3.heap.size + 3 ∨ W4.heap.size ≤ g) := Lib.hid (fun g e => by
                   rcases hat7 with h | h
                   · exact BO.out g (h.symm.trans e)
                   · rw [h] at e; injection e with e; right; have := AG6.out.1; omega)
                 have OB7 := Lib.hid (show OwnI w7 (w3.heap.size + 2) (fun p => g5 w7 (w3.heap.size + 2) p ∧ p ≠ G) A7 (kb + k6) c7 ((scan (AL.take P)).1 ++ itn) from
                   o7.keep (Nat.le_refl _) (fun _ _ _ => rfl) (fun _ _ _ => rfl) (fun p hp _ => ⟨hp.1.grown hg7 (OB6.out.g5ne hp.1), hp.2⟩))
                 clear hg7 o7 hat7))
            go_loopw [17] (fun u wk => ∃ (k : Nat) (lx : List UInt8), k ≤ k5 ∧ u = .int .i64 k ∧ OwnB wk wr.heap.size (some ⟨G, 0, none⟩) k5 c5 lx ∧ w7.grownBy wk (some G)) (fun u _ => k5 - (intOf u).toNat)
            case atStart => exact ⟨0, chunk, by omega, rfl, O7.out, World.grownBy.refl _ _⟩
            case round =>
              obtain ⟨k, lx, hk, rfl, ox, hgx⟩ := hrel
              by_cases hk5 : k < k5
              · obtain ⟨u', hu'⟩ : ∃ u', lx[k]? = some u' := ⟨lx[k]'(by rw [ox.length]; exact hk5), List.getElem?_eq_getElem _⟩
                obtain ⟨q1, q2⟩ := ox.get' hk5 hu'
                have OX := Lib.hid ox
                have HGX := Lib.hid hgx
                clear hu' ox hgx
                go_wp2
                go_roundw
                case rel => exact ⟨k + 1, lx.set k 165, by omega, by go_num, OwnB.set_ OX.out hk5 165 rfl, HGX.out.trans (grownBy_setCell _ _ _)⟩
                case measure => simp [intOf]; omega
              · have hGg := (O7.out.g5 (g := G) rfl)
                have OBk := Lib.hid (show OwnI wr (w3.heap.size + 2) (g5 wr (w3.heap.size + 2)) A7 (kb + k6) c7 (scan (AL.take (P + (stp50 u)))).1 from by
                  rw [HITS.out]
                  exact OB7.out.keep hgx.size (fun g hg hlt => hgx.block g hlt (fun e => OB7.out.g5ne hGg (by rw [hg]; exact e.symm))) (fun p hp hlt => hgx.block p hlt (fun e => hp.2 (by injection e)))
                    (fun p hp hlt => hp.1.of_eq (hgx.block p hlt (fun e => hp.2 (by injection e)))))
                have Tk := Lib.hid ((T7.out.keptG hgx (by omega) hG').mono (base' := w3.heap.size + 2) (by omega))
                have AGk := Lib.hid (AG7.out.grown hgx (fun g e => by injection e with e; right; right; omega))
                have hBk : Below w3.heap.size w3 wr := hB7.grown hgx (by omega) (fun g e => by injection e with e; omega)
                clear hGg hgx ox
                go_wp2
                go_roundw
                case rel => exact ⟨P + (stp50 u), I + 1, A7, kb + k6, c7, hPN, by omega, by go_num, by go_num, rfl, BO7.out, OBk.out, Tk.out, AGk.out, hBk⟩
                case measure => simp [intOf]; omega
        · have htP : AL.take P = AL := List.take_of_length_le (by rw [HKL.out]; omega)
          have ob2 := OB2.out
          have t2 := T2.out
          rw [htP] at ob2 t2
          obtain ⟨its, hits⟩ : ∃ its, its = (scan AL).1 := ⟨_, rfl⟩
          obtain ⟨L, hL⟩ : ∃ L, L = (scan AL).2.length := ⟨_, rfl⟩
          have hsh := left_short AL
          rw [← hL] at hsh
          have oa2 := OA'.out.agr OB.out AG.out (by omega) (by omega) HNE.out
          rw [← hits] at oa2 ob2
          obtain ⟨hsg, -, A0, k0, c0, hc0, ho0⟩ := S1'.out
          have hk0 : L = k0 := by rw [hL]; exact ho0.length
          subst hk0
          have hcs : wr.cell? ⟨w3.heap.size, 0, none⟩ = some (.slice A0 L c0) := (World.cell?_of_block (AG.out.2 w3.heap.size hsg (by omega) (by omega))).trans hc0
          have HCS := Lib.hid hcs
          have T3 := Lib.hid t2
          have OA3 := Lib.hid oa2
          have OB3 := Lib.hid ob2
          have HAN := Lib.hid (allN (show scan AL = (its, (scan AL).2) by rw [hits]) hL.symm w3.heap.size Al kl cl wr (HAL.out.below hbr2) hws2 hkc (by unfold maxLen; omega) (by omega))
          have HLN := Lib.hid hL.symm
          have hH34 : w3.heap.size < wr.heap.size := by omega
          clear htP ob2 t2 hits hL oa2 hsg hc0 ho0 hcs
          go_wp2_with (first
            | (go_at_call 39; (with_reducible refine HAN.out.mono ?_); rintro e w5 ⟨A5, k5, c5, rfl, o5, hb5⟩
               have hs5 := hb5.size
               have oa5 := OA3.out.belw hb5
               have ob5 := OB3.out.belw hb5
               obtain rfl : ka = kb := oa5.length.symm.trans ob5.length
               obtain rfl : ka = k5 := oa5.length.symm.trans o5.length
               have OA5 := Lib.hid oa5
               have O5 := Lib.hid o5
               obtain ⟨va, ova, iva⟩ := oa5
               obtain ⟨vb, ovb, ivb⟩ := ob5
               have HSM := Lib.hid (same07_refl w5 Aa Ab ka ca cb _ _ _ _ _ _ _ (Reads.of_own ova) iva (Reads.of_own ovb) ivb (by unfold maxLen; omega))
               clear o5 ova iva ovb ivb)
            | (go_at_call 40; (with_reducible refine HSM.out.mono ?_); rintro e w6 ⟨rfl, hb6⟩
               have hs6 := hb6.size
               have oa6 := OA5.out.belw hb6
               have o6 := O5.out.belw hb6
               obtain ⟨va, ova, iva⟩ := oa6
               obtain ⟨v6, ov6, iv6⟩ := o6
               have HSM2 := Lib.hid (same07_refl w6 Aa A5 ka ca c5 _ _ _ _ _ _ _ (Reads.of_own ova) iva (Reads.of_own ov6) iv6 (by unfold maxLen; omega))
               clear ova iva ov6 iv6)
            | (go_at_call 40; (with_reducible refine HSM2.out.mono ?_); rintro e w7 ⟨rfl, hb7⟩
               have hs7 := hb7.size
               have hb57 : Below wr.heap.size wr w7 := (hb5.trans (hb6.mono hs5)).trans (hb7.mono (Nat.le_trans hs5 hs6))
               have HR1 := Lib.hid (rest_same w7 w3.heap.size A0 L c0 (cell_below hb57 HCS.out hH34))
               have HR2 := Lib.hid ((T3.out.belw hb57).restN HLN.out))
            | (go_at_call 41; (with_reducible refine HR1.out.mono ?_); rintro e w' ⟨rfl, rfl⟩)
            | (go_at_call 41; (with_reducible refine HR2.out.mono ?_); rintro e w' ⟨rfl, rfl⟩))
          go_ret
          exact ⟨by rw [decide_eq_true (show (L : Int) < 37 by omega)]; exact rfl, hB3.trans ((hbr2.trans (hb57.mono hws2)).mono hB3.size)⟩
end Go.Proofs.Ytmjoikjkmdbleaa
