/- Walks: All, Take, Rest, New. -/
import Derived.Test.YtmjoikjkmdbleaaStB
import Derived.Test.YtmjoikjkmdbleaaFrJ
import Derived.WalkMore
namespace Go.Proofs.Ytmjoikjkmdbleaa
open Go.RowKit Crc Fr St
set_option linter.unusedVariables false

theorem slice_any (A : Option Addr) (n c lo : Nat) (w : World) (L : Int) (hL : L = lo) (h1 : lo ≤ n) (h2 : n ≤ c) :
    (Instr.slice 22 (.slice A n c) (some (.int .i64 L)) none none).run Try.prog w = .ok (.slice (if c = lo then A else A.map (·.add lo)) (n - lo) (c - lo)) w := by
  subst hL
  rw [run_slice_l w 22 _ n c elem22 .i64 lo (by omega) (by omega), size22]
  simp only [Result.andThen, sliced, Int.toNat_natCast]
  by_cases h : c = lo
  · subst h; rcases A with _ | ad <;> simp
  · rcases A with _ | ad
    · simp [h]
    · simp [h]

theorem reads_new2 (w : World) (u v : Value) (e : TypeId) (m : Nat × Nat) : Reads (w.alloc (.cells #[u, v] e m)) (w.heap.size + 1) 2 (some ⟨w.heap.size, 0, none⟩) 1 [u, v] := by
  refine ⟨rfl, fun _ => ⟨_, rfl, by simp, fun j x hx => ?_⟩⟩
  have hj : (Addr.add ⟨w.heap.size, 0, none⟩ j) = ⟨w.heap.size, j, none⟩ := by unfold Addr.add; split <;> simp_all
  rw [hj]
  exact cell_new w #[u, v] e m j x (by simpa using hx)

theorem g5.grown {w w' : World} {base p : Nat} {row : Option Nat} (h : g5 w base p) (hg : w.grownBy w' row) (hne : some p ≠ row) : g5 w' base p := h.of_eq (hg.block p h.lt hne)
theorem g5.belw {w w' : World} {base p : Nat} (h : g5 w base p) (hb : Below w.heap.size w w') : g5 w' base p := h.of_eq (hb.block p h.lt)
theorem OwnI.g5ne {w : World} {base base' : Nat} {good : Nat → Prop} {A : Option Addr} {k c : Nat} {its : List It} (h : OwnI w base good A k c its) {p : Nat} (hp : g5 w base' p) : some p ≠ (Value.slice A k c).ownBlock := by
  intro e
  obtain ⟨_, cur, m, h1⟩ := h.type e.symm
  obtain ⟨_, cur', m', h2⟩ := hp
  rw [h1] at h2
  simp at h2
theorem OwnI.belw {w w' : World} {base base' : Nat} {A : Option Addr} {k c : Nat} {its : List It} (h : OwnI w base (g5 w base') A k c its) (hb : Below w.heap.size w w') : OwnI w' base (g5 w' base') A k c its :=
  h.keep hb.size (fun g _ hlt => hb.block g hlt) (fun p _ hlt => hb.block p hlt) (fun p hp _ => hp.belw hb)
theorem OwnI.lt {w : World} {base : Nat} {good : Nat → Prop} {A : Option Addr} {k c : Nat} {its : List It} (h : OwnI w base good A k c its) {g : Nat} (hg : (Value.slice A k c).ownBlock = some g) : base ≤ g ∧ g < w.heap.size := by
  obtain ⟨hb, cur, m, h1⟩ := h.type hg
  refine ⟨hb, ?_⟩
  rcases Nat.lt_or_ge g w.heap.size with h2 | h2
  · exact h2
  · rw [Array.getElem?_eq_none h2] at h1; cases h1

theorem wpList_append_i5 {w : World} {ops : Array Oper} {rest : List Oper} {o : Oper} {a : Act} {Q : Exit → Act → World → Prop} (hgd : o.guard = none) (s x : Operand)
    (ho : o.op = .call { callee := .builtin .append, args := #[s, x], argTypes := #[47, 47] })
    (base : Nat) (A : Option Addr) (k c : Nat) (l : List It) (hs : a.eval s = .slice A k c) (hown : OwnI w base (g5 w base) A k c l)
    (B : Nat) (A2 : Option Addr) (m c2 : Nat) (news : List It) (nvs : List Value) (hx : a.eval x = .slice A2 m c2) (hr : Reads w B 2 A2 m nvs) (hn : Its w (g5 w base) news nvs)
    (hbd : k + m ≤ 1000000000) (hbase : base ≤ w.heap.size)
    (h : ∀ (A' : Option Addr) (c' : Nat) (w' : World), OwnI w' base (g5 w' base) A' (k + m) c' (l ++ news) → w.grownBy w' (Value.slice A k c).ownBlock →
      wpList Try.prog ops Q rest (a.put o.dst (.slice A' (k + m) c')) w') : wpList Try.prog ops Q (o :: rest) a w := by
  refine wpList_append_i hgd s x ho base (g5 w base) A k c l hs hown B A2 m c2 news nvs hx hr hn (fun p hp => hown.g5ne hp) hbd hbase ?_
  intro A' c' w' h1 h2 _
  exact h A' c' w' (h1.keep (Nat.le_refl _) (fun _ _ _ => rfl) (fun _ _ _ => rfl) (fun p hp _ => hp.grown h2 (hown.g5ne hp))) h2

theorem stopHere' {P : Prop} (h : Hid P) : P := h
def lenV : Value → Nat
  | .slice _ n _ => n
  | _ => 0

set_option maxHeartbeats 1000000 in
theorem all_any (B : Nat) (A : Option Addr) (n c : Nat) (l : List UInt8) (w : World) (hr : Reads w B 1 A n (l.map bv)) (hB : B ≤ w.heap.size) (hc : n ≤ c) (hm : c ≤ maxLen) (hn : n ≤ 100000) :
    Calls Try.prog 39 #[.slice A n c] w fun e w' => ∃ A' k' c', e = .returned (.tuple #[.slice A' k' c', .int .i64 ((scan l).2.length : Int)]) ∧ OwnI w' w.heap.size (g5 w' w.heap.size) A' k' c' (scan l).1 ∧ Below w.heap.size w w' := by
  have hr1 := Lib.hid hr
  have hln : l.length = n := by simpa using hr.1
  have HLN := Lib.hid hln
  clear hr hln
  go_enter Try.func39, Try.ntmps39
  go_wp2
  go_step3
  go_wp2
  go_step3
  go_wp2
  go_loopw [0, 4] (fun b i wr => ∃ (A1 : Option Addr) (n1 c1 : Nat) (lr : List UInt8) (A2 : Option Addr) (k2 c2 : Nat) (done : List It), b = .slice A1 n1 c1 ∧ i = .slice A2 k2 c2 ∧ Reads wr B 1 A1 n1 (lr.map bv) ∧ n1 ≤ c1 ∧ c1 ≤ maxLen ∧
      OwnI wr w.heap.size (g5 wr w.heap.size) A2 k2 c2 done ∧ k2 + n1 ≤ n ∧ scan l = (done ++ (scan lr).1, (scan lr).2) ∧ Below w.heap.size w wr) (fun b _ _ => lenV b)
  case atStart => exact ⟨A, n, c, l, none, 0, 0, [], rfl, rfl, hr1.out, hc, hm, OwnI.nil_ _, by omega, rfl, Below.refl _ _⟩
  case round =>
    obtain ⟨A1, n1, c1, lr, A2, k2, c2, done, rfl, rfl, hrd, hc1, hm1, hoi, hkn, hsc, hbr⟩ := hrel
    have hl1 : lr.length = n1 := by simpa using hrd.1
    have hws := hbr.size
    have HRD := Lib.hid hrd
    have HOI := Lib.hid hoi
    have HSC := Lib.hid hsc
    clear hrd hoi hsc
    obtain ⟨fk, fs, fc, fb, hf⟩ : ∃ fk fs fc fb, Fr.next lr = ⟨fk, fs, fc, fb⟩ := ⟨_, _, _, _, rfl⟩
    have NF := Lib.hid (next_named hf B A1 n1 c1 wr HRD.out (by omega) hc1 hm1)
    have HF := Lib.hid hf
    by_cases h0 : fk = 0
    · subst h0
      have hw : scan lr = ([], lr) := scan_wait (by rw [hf])
      have HW := Lib.hid hw
      clear hf hw
      go_wp2_with (go_at_call 28; (with_reducible refine NF.out.mono ?_); rintro e w1 ⟨A5, k5, c5, rfl, o5, hb5⟩)
      rw [Exit.noGoto_ret]
      go_ret2
      have e1 : (scan l).2 = lr := by rw [HSC.out, HW.out]
      have e2 : (scan l).1 = done := by rw [HSC.out, HW.out]; simp
      refine ⟨A2, k2, c2, by rw [e1, hl1]; exact rfl, ?_, (hbr.trans (hb5.mono (by omega))).alloc (by have := hb5.size; omega) _⟩
      rw [e2]
      exact (HOI.out.belw hb5).belw ((Below.refl _ _).alloc (Nat.le_refl _) _)
    · have hsz := goes_size lr (by rw [hf]; exact h0)
      rw [hf] at hsz
      simp only at hsz
      rw [hl1] at hsz
      have hstep : scan lr = (item ⟨fk, fs, fc, fb⟩ ++ (scan (lr.drop fs)).1, (scan (lr.drop fs)).2) := by
        have := scan_step (l := lr) (by rw [hf]; exact h0)
        rw [hf] at this
        exact this
      have HST := Lib.hid hstep
      have sl := fun w => slice_any A1 n1 c1 fs w (fs : Int) rfl hsz.2 hc1
      have hcut : Reads wr B 1 (if c1 = fs then A1 else A1.map (·.add fs)) (n1 - fs) ((lr.drop fs).map bv) := by
        have := Reads.cut HRD.out hsz.2 hc1
        rwa [Nat.mul_one, ← List.map_drop] at this
      have HCUT := Lib.hid hcut
      clear hcut
      generalize (if c1 = fs then A1 else A1.map (·.add fs)) = A1' at sl HCUT
      clear hf hstep
      by_cases h2 : fk = 2
      · subst h2
        clear h0
        go_wp2_with (first
          | (go_at_call 28; (with_reducible refine NF.out.mono ?_); rintro e w1 ⟨A5, k5, c5, rfl, o5, hb5⟩; have hs5 := hb5.size)
          | (at_builtin
             have hb6 := (hb5.alloc (Nat.le_trans hs5 (Nat.le_refl _)) (.cells #[.int .i64 2, .int .i64 (fs : Int), .int .i64 (fc : Int), .slice A5 k5 c5] 37)).alloc (by simp; omega) (.cells #[.int .i64 0, .slice A5 k5 c5] 55)
             have oi := HOI.out.belw hb6
             refine wpList_append_i5 rfl (.tmp 14) (.tmp 18) rfl w.heap.size A2 k2 c2 done rfl oi (w1.heap.size + 2) (some ⟨w1.heap.size + 1, 0, none⟩) 1 1 [(0, fb)] [.int .i64 0, .slice A5 k5 c5] (by rfl) (by simpa using reads_new2 (w1.alloc (.cells #[.int .i64 2, .int .i64 (fs : Int), .int .i64 (fc : Int), .slice A5 k5 c5] 37)) (.int .i64 0) (.slice A5 k5 c5) 55 (0, 0)) ⟨rfl, ⟨_, _, _, rfl, Bd.of_own ((o5.alloc _).alloc _) hws⟩, trivial⟩ (by omega) (by simp; omega) ?_
             intro A6 c6 w6 o6 hg6
             have hW6 : Below w.heap.size wr w6 := (hb6.mono hws).grown hg6 (by simp; omega) (fun g hg => (oi.lt hg).1)
             have f1 : w6.cell? ⟨w1.heap.size, 1, none⟩ = some (.int .i64 (fs : Int)) := (World.cell?_of_block (hg6.block w1.heap.size (by simp; omega) (fun e => by have := (HOI.out.lt e.symm).2; omega))).trans (cell_alloc (cell_new w1 _ 37 _ 1 _ rfl) _)
             clear hb6 oi hg6))
        go_roundw
        case rel => exact ⟨_, _, _, lr.drop fs, A6, k2 + 1, c6, done ++ [(0, fb)], rfl, rfl, HCUT.out.below (hW6.mono hB), by omega, by omega, o6, by omega, by rw [HSC.out, HST.out]; simp [item], hbr.trans hW6⟩
        case measure => simp [lenV]; omega
      · by_cases h3 : fk = 3
        · subst h3
          clear h0 h2
          go_wp2_with (first
            | (go_at_call 28; (with_reducible refine NF.out.mono ?_); rintro e w1 ⟨A5, k5, c5, rfl, o5, hb5⟩; have hs5 := hb5.size)
            | (at_builtin
               have hb6 := (hb5.alloc (Nat.le_trans hs5 (Nat.le_refl _)) (.cells #[.int .i64 3, .int .i64 (fs : Int), .int .i64 (fc : Int), .slice A5 k5 c5] 37)).alloc (by simp; omega) (.cells #[.int .i64 (fc : Int), .slice none 0 0] 55)
               have oi := HOI.out.belw hb6
               refine wpList_append_i5 rfl (.tmp 22) (.tmp 26) rfl w.heap.size A2 k2 c2 done rfl oi (w1.heap.size + 2) (some ⟨w1.heap.size + 1, 0, none⟩) 1 1 [(fc, [])] [.int .i64 (fc : Int), .slice none 0 0] (by rfl) (by simpa using reads_new2 (w1.alloc (.cells #[.int .i64 3, .int .i64 (fs : Int), .int .i64 (fc : Int), .slice A5 k5 c5] 37)) (.int .i64 (fc : Int)) (.slice none 0 0) 55 (0, 0)) ⟨rfl, ⟨_, _, _, rfl, Bd.nil_⟩, trivial⟩ (by omega) (by simp; omega) ?_
               intro A6 c6 w6 o6 hg6
               have hW6 : Below w.heap.size wr w6 := (hb6.mono hws).grown hg6 (by simp; omega) (fun g hg => (oi.lt hg).1)
               have f1 : w6.cell? ⟨w1.heap.size, 1, none⟩ = some (.int .i64 (fs : Int)) := (World.cell?_of_block (hg6.block w1.heap.size (by simp; omega) (fun e => by have := (HOI.out.lt e.symm).2; omega))).trans (cell_alloc (cell_new w1 _ 37 _ 1 _ rfl) _)
               clear hb6 oi hg6))
          go_roundw
          case rel => exact ⟨_, _, _, lr.drop fs, A6, k2 + 1, c6, done ++ [(fc, [])], rfl, rfl, HCUT.out.below (hW6.mono hB), by omega, by omega, o6, by omega, by rw [HSC.out, HST.out]; simp [item], hbr.trans hW6⟩
          case measure => simp [lenV]; omega

        · have hk0 : ((fk : Int) == 0) = false := by simpa using h0
          have hk2 : ((fk : Int) == 2) = false := by simp; omega
          have hk3 : ((fk : Int) == 3) = false := by simp; omega
          have hi : item ⟨fk, fs, fc, fb⟩ = [] := by simp [item, h2, h3]
          have HI := Lib.hid hi
          clear hi h0 h2 h3
          go_wp2_with (go_at_call 28; (with_reducible refine NF.out.mono ?_); rintro e w1 ⟨A5, k5, c5, rfl, o5, hb5⟩; have hs5 := hb5.size)
          go_roundw
          case rel =>
            have hW6 := hb5.alloc hs5 (.cells #[.int .i64 (fk : Int), .int .i64 (fs : Int), .int .i64 (fc : Int), .slice A5 k5 c5] 37)
            exact ⟨_, _, _, lr.drop fs, A2, k2, c2, done, rfl, rfl, HCUT.out.below (hW6.mono (by omega)), by omega, by omega, HOI.out.belw hW6, by omega, by rw [HSC.out, HST.out, HI.out]; simp, hbr.trans (hW6.mono hws)⟩
          case measure => simp [lenV]; omega
end Go.Proofs.Ytmjoikjkmdbleaa
