/- The walk of the law FrameGoes. -/
import Derived.Test.YtmjoikjkmdbleaaFrI
namespace Go.Proofs.Ytmjoikjkmdbleaa
open Go.RowKit Crc Fr
set_option linter.unusedVariables false

/-- What Next gives back, its numbers named. -/
theorem next_named {l : List UInt8} {fk fs fc : Nat} {fb : List UInt8} (hf : Fr.next l = ⟨fk, fs, fc, fb⟩) (B : Nat) (A : Option Addr) (n c : Nat) (w : World) (hr : Reads w B 1 A n (l.map bv)) (hB : B ≤ w.heap.size) (hc : n ≤ c) (hm : c ≤ maxLen) :
    Calls Try.prog 28 #[.slice A n c] w fun e w' => ∃ A' k' c', e = .returned (.agg #[.int .i64 (fk : Int), .int .i64 (fs : Int), .int .i64 (fc : Int), .slice A' k' c']) ∧ OwnB w' w.heap.size A' k' c' fb ∧ Below w.heap.size w w' := by
  have := next_any B A n c l w hr hB hc hm
  rw [hf] at this
  exact this

set_option maxHeartbeats 1000000 in
theorem goes_wait_walk (A B : Option Addr) (n m c d : Nat) (x' y' : List UInt8) (w : World) (n' m' : Nat) (hx : Reads w w.heap.size 1 A n' (x'.map bv)) (hy : Reads w w.heap.size 1 B m' (y'.map bv))
    (hf1 : ∀ w, Calls Try.prog 27 #[.slice A n c] w fun e w' => e = .returned (.slice A n' c) ∧ w = w') (hf2 : ∀ w, Calls Try.prog 27 #[.slice B m d] w fun e w' => e = .returned (.slice B m' d) ∧ w = w')
    (hn : n' ≤ 100) (hm : m' ≤ 100) (hnc : n' ≤ c) (hc : c ≤ maxLen) (fc : Nat) (fb : List UInt8) (gk gs gc : Nat) (gb : List UInt8) (hF : Fr.next x' = ⟨0, 0, fc, fb⟩) (hG : Fr.next (x' ++ y') = ⟨gk, gs, gc, gb⟩) (h37 : n' < 37) :
    Calls Try.prog 9 #[.slice A n c, .slice B m d] w fun e w' => e = .returned (.bool true) ∧ Below w.heap.size w w' := by
  have hx1 := Lib.hid hx
  have hy1 := Lib.hid hy
  have F1 := Lib.hid hf1
  have F2 := Lib.hid hf2
  have NF := Lib.hid (@next_named x' 0 0 fc fb hF)
  have NG := Lib.hid (@next_named (x' ++ y') gk gs gc gb hG)
  clear hx hy hf1 hf2 hF hG
  go_enter Try.func9, Try.ntmps9
  go_wp2_with (first
    | (go_at_call 26; (with_reducible refine (shown6_any _).mono ?_); rintro e w1 ⟨rfl, hb1⟩; have hs1 := hb1.size)
    | (go_at_call 27; (with_reducible refine (F1.out _).mono ?_); rintro e w' ⟨rfl, rfl⟩)
    | (go_at_call 27; (with_reducible refine (F2.out _).mono ?_); rintro e w' ⟨rfl, rfl⟩)
    | (go_at_call 28; (with_reducible refine (NF.out w.heap.size _ n' c _ (hx1.out.below hb1) hs1 hnc hc).mono ?_); rintro e w2 ⟨A2, k2, c2, rfl, o2, hb2⟩
       have hs2 := hb2.size
       have hx2 := Lib.hid (hx1.out.below (hb1.trans (hb2.mono hs1)))
       have hy2 := Lib.hid (hy1.out.below (hb1.trans (hb2.mono hs1))))
    | (at_builtin
       refine wpList_append_b rfl (.tmp 14) (.tmp 15) rfl (w2.heap.size + 1) (some ⟨w2.heap.size + 1, 0, none⟩) 0 0 [] rfl (by simpa using OwnB.made0 (base := w2.heap.size + 1) (w2.alloc (.cells #[.int .i64 0, .int .i64 0, .int .i64 fc, .slice A2 k2 c2] 37)) (by simp)) w.heap.size A n' c x' rfl ((hx2.out.alloc (by omega) _).alloc (by simp; omega) _) (by omega) (by simp) ?_
       intro A3 k3 c3 w3 hk3 hk3' o3 hg3 _
       have hb3 : Below (w2.heap.size + 1) (w2.alloc (.cells #[.int .i64 0, .int .i64 0, .int .i64 fc, .slice A2 k2 c2] 37)) w3 := ((Below.refl _ _).alloc (by simp) _).grown hg3 (by simp) (by simp [Value.ownBlock])
       have hs3 := hb3.size
       simp at hs3
       clear hg3)
    | (at_builtin
       refine wpList_append_b rfl (.tmp 16) (.tmp 18) rfl (w2.heap.size + 1) A3 k3 c3 _ rfl o3 w.heap.size B m' d y' rfl ((hy2.out.alloc (by omega) _).below (hb3.mono (by omega))) (by omega) hs3 ?_
       intro A4 k4 c4 w4 hk4 hk4' o4 hg4 _
       have hb4 : Below (w2.heap.size + 1) (w2.alloc (.cells #[.int .i64 0, .int .i64 0, .int .i64 fc, .slice A2 k2 c2] 37)) w4 := hb3.grown hg4 hs3 (fun g hg => (o3.lt g hg).1)
       have hs4 := hb4.size
       simp at hs4
       clear hg4)
    | (go_at_call 28; (with_reducible refine (NG.out w4.heap.size _ k4 c4 _ (by simpa using o4.reads) (Nat.le_refl _) o4.bounds.1 o4.bounds.2).mono ?_); rintro e w5 ⟨A5, k5, c5, rfl, o5, hb5⟩
       have hs5 := hb5.size
       have f0 := fun o => cell_alloc (cell_below hb5 (cell_below hb4 (cell_new w2 _ 37 _ 0 _ rfl) (by simp)) (by simp; omega)) o
       have f1 := fun o => cell_alloc (cell_below hb5 (cell_below hb4 (cell_new w2 _ 37 _ 1 _ rfl) (by simp)) (by simp; omega)) o))
  have hB2 : Below w.heap.size w w2 := hb1.trans (hb2.mono hs1)
  have hB4 : Below w.heap.size w w4 := (hB2.alloc (by omega) _).trans (hb4.mono (by omega))
  have hB5 : Below w.heap.size w w5 := hB4.trans (hb5.mono (by omega))
  go_ret
  have h37' : (n' : Int) < 37 := by omega
  exact ⟨by simp [h37'], hB5.alloc (by omega) _⟩

set_option maxHeartbeats 1000000 in
theorem goes_skip_walk (A B : Option Addr) (n m c d : Nat) (x' y' : List UInt8) (w : World) (n' m' : Nat) (hx : Reads w w.heap.size 1 A n' (x'.map bv)) (hy : Reads w w.heap.size 1 B m' (y'.map bv))
    (hf1 : ∀ w, Calls Try.prog 27 #[.slice A n c] w fun e w' => e = .returned (.slice A n' c) ∧ w = w') (hf2 : ∀ w, Calls Try.prog 27 #[.slice B m d] w fun e w' => e = .returned (.slice B m' d) ∧ w = w')
    (hn : n' ≤ 100) (hm : m' ≤ 100) (hnc : n' ≤ c) (hc : c ≤ maxLen) (fs fc : Nat) (fb : List UInt8) (gs gc : Nat) (gb : List UInt8) (hF : Fr.next x' = ⟨1, fs, fc, fb⟩) (hG : Fr.next (x' ++ y') = ⟨1, gs, gc, gb⟩) (h1 : 1 ≤ fs) (h2 : fs ≤ n') (h3 : fs ≤ gs) (h4 : gs = fs ∨ fs = n') :
    Calls Try.prog 9 #[.slice A n c, .slice B m d] w fun e w' => e = .returned (.bool true) ∧ Below w.heap.size w w' := by
  have hx1 := Lib.hid hx
  have hy1 := Lib.hid hy
  have F1 := Lib.hid hf1
  have F2 := Lib.hid hf2
  have NF := Lib.hid (@next_named x' 1 fs fc fb hF)
  have NG := Lib.hid (@next_named (x' ++ y') 1 gs gc gb hG)
  have H4 := Lib.hid h4
  clear hx hy hf1 hf2 hF hG h4
  go_enter Try.func9, Try.ntmps9
  go_wp2_with (first
    | (go_at_call 26; (with_reducible refine (shown6_any _).mono ?_); rintro e w1 ⟨rfl, hb1⟩; have hs1 := hb1.size)
    | (go_at_call 27; (with_reducible refine (F1.out _).mono ?_); rintro e w' ⟨rfl, rfl⟩)
    | (go_at_call 27; (with_reducible refine (F2.out _).mono ?_); rintro e w' ⟨rfl, rfl⟩)
    | (go_at_call 28; (with_reducible refine (NF.out w.heap.size _ n' c _ (hx1.out.below hb1) hs1 hnc hc).mono ?_); rintro e w2 ⟨A2, k2, c2, rfl, o2, hb2⟩
       have hs2 := hb2.size
       have hx2 := Lib.hid (hx1.out.below (hb1.trans (hb2.mono hs1)))
       have hy2 := Lib.hid (hy1.out.below (hb1.trans (hb2.mono hs1))))
    | (at_builtin
       refine wpList_append_b rfl (.tmp 14) (.tmp 15) rfl (w2.heap.size + 1) (some ⟨w2.heap.size + 1, 0, none⟩) 0 0 [] rfl (by simpa using OwnB.made0 (base := w2.heap.size + 1) (w2.alloc (.cells #[.int .i64 1, .int .i64 fs, .int .i64 fc, .slice A2 k2 c2] 37)) (by simp)) w.heap.size A n' c x' rfl ((hx2.out.alloc (by omega) _).alloc (by simp; omega) _) (by omega) (by simp) ?_
       intro A3 k3 c3 w3 hk3 hk3' o3 hg3 _
       have hb3 : Below (w2.heap.size + 1) (w2.alloc (.cells #[.int .i64 1, .int .i64 fs, .int .i64 fc, .slice A2 k2 c2] 37)) w3 := ((Below.refl _ _).alloc (by simp) _).grown hg3 (by simp) (by simp [Value.ownBlock])
       have hs3 := hb3.size
       simp at hs3
       clear hg3)
    | (at_builtin
       refine wpList_append_b rfl (.tmp 16) (.tmp 18) rfl (w2.heap.size + 1) A3 k3 c3 _ rfl o3 w.heap.size B m' d y' rfl ((hy2.out.alloc (by omega) _).below (hb3.mono (by omega))) (by omega) hs3 ?_
       intro A4 k4 c4 w4 hk4 hk4' o4 hg4 _
       have hb4 : Below (w2.heap.size + 1) (w2.alloc (.cells #[.int .i64 1, .int .i64 fs, .int .i64 fc, .slice A2 k2 c2] 37)) w4 := hb3.grown hg4 hs3 (fun g hg => (o3.lt g hg).1)
       have hs4 := hb4.size
       simp at hs4
       clear hg4)
    | (go_at_call 28; (with_reducible refine (NG.out w4.heap.size _ k4 c4 _ (by simpa using o4.reads) (Nat.le_refl _) o4.bounds.1 o4.bounds.2).mono ?_); rintro e w5 ⟨A5, k5, c5, rfl, o5, hb5⟩
       have hs5 := hb5.size
       have f0 := fun o => cell_alloc (cell_below hb5 (cell_below hb4 (cell_new w2 _ 37 _ 0 _ rfl) (by simp)) (by simp; omega)) o
       have f1 := fun o => cell_alloc (cell_below hb5 (cell_below hb4 (cell_new w2 _ 37 _ 1 _ rfl) (by simp)) (by simp; omega)) o))
  · go_ret
    have hB2 : Below w.heap.size w w2 := hb1.trans (hb2.mono hs1)
    have hB4 : Below w.heap.size w w4 := (hB2.alloc (by omega) _).trans (hb4.mono (by omega))
    have hB5 : Below w.heap.size w w5 := hB4.trans (hb5.mono (by omega))
    exact ⟨rfl, hB5.alloc (by omega) _⟩
  · go_ret
    have hB2 : Below w.heap.size w w2 := hb1.trans (hb2.mono hs1)
    have hB4 : Below w.heap.size w w4 := (hB2.alloc (by omega) _).trans (hb4.mono (by omega))
    have hB5 : Below w.heap.size w w5 := hB4.trans (hb5.mono (by omega))
    refine ⟨?_, hB5.alloc (by omega) _⟩
    have : ((gs : Int) == (fs : Int) || (fs : Int) == (n' : Int)) = true := by
      rcases H4.out with h | h <;> simp [h]
    show Ending.returned (.bool ((gs : Int) == (fs : Int) || (fs : Int) == (n' : Int))) = _
    rw [this]


set_option maxHeartbeats 1000000 in
theorem goes_other_walk (A B : Option Addr) (n m c d : Nat) (x' y' : List UInt8) (w : World) (n' m' : Nat) (hx : Reads w w.heap.size 1 A n' (x'.map bv)) (hy : Reads w w.heap.size 1 B m' (y'.map bv))
    (hf1 : ∀ w, Calls Try.prog 27 #[.slice A n c] w fun e w' => e = .returned (.slice A n' c) ∧ w = w') (hf2 : ∀ w, Calls Try.prog 27 #[.slice B m d] w fun e w' => e = .returned (.slice B m' d) ∧ w = w')
    (hn : n' ≤ 100) (hm : m' ≤ 100) (hnc : n' ≤ c) (hc : c ≤ maxLen) (fk fs fc : Nat) (fb : List UInt8) (hF : Fr.next x' = ⟨fk, fs, fc, fb⟩) (hG : Fr.next (x' ++ y') = ⟨fk, fs, fc, fb⟩) (h0 : ((fk : Int) == 0) = false) (h00 : ((fk : Int) == 1) = false) (h1 : 1 ≤ fs) (h2 : fs ≤ n') :
    Calls Try.prog 9 #[.slice A n c, .slice B m d] w fun e w' => e = .returned (.bool true) ∧ Below w.heap.size w w' := by
  have hx1 := Lib.hid hx
  have hy1 := Lib.hid hy
  have F1 := Lib.hid hf1
  have F2 := Lib.hid hf2
  have NF := Lib.hid (@next_named x' fk fs fc fb hF)
  have NG := Lib.hid (@next_named (x' ++ y') fk fs fc fb hG)
  clear hx hy hf1 hf2 hF hG
  go_enter Try.func9, Try.ntmps9
  go_wp2_with (first
    | (go_at_call 26; (with_reducible refine (shown6_any _).mono ?_); rintro e w1 ⟨rfl, hb1⟩; have hs1 := hb1.size)
    | (go_at_call 27; (with_reducible refine (F1.out _).mono ?_); rintro e w' ⟨rfl, rfl⟩)
    | (go_at_call 27; (with_reducible refine (F2.out _).mono ?_); rintro e w' ⟨rfl, rfl⟩)
    | (go_at_call 28; (with_reducible refine (NF.out w.heap.size _ n' c _ (hx1.out.below hb1) hs1 hnc hc).mono ?_); rintro e w2 ⟨A2, k2, c2, rfl, o2, hb2⟩
       have hs2 := hb2.size
       have hx2 := Lib.hid (hx1.out.below (hb1.trans (hb2.mono hs1)))
       have hy2 := Lib.hid (hy1.out.below (hb1.trans (hb2.mono hs1))))
    | (at_builtin
       refine wpList_append_b rfl (.tmp 14) (.tmp 15) rfl (w2.heap.size + 1) (some ⟨w2.heap.size + 1, 0, none⟩) 0 0 [] rfl (by simpa using OwnB.made0 (base := w2.heap.size + 1) (w2.alloc (.cells #[.int .i64 fk, .int .i64 fs, .int .i64 fc, .slice A2 k2 c2] 37)) (by simp)) w.heap.size A n' c x' rfl ((hx2.out.alloc (by omega) _).alloc (by simp; omega) _) (by omega) (by simp) ?_
       intro A3 k3 c3 w3 hk3 hk3' o3 hg3 _
       have hb3 : Below (w2.heap.size + 1) (w2.alloc (.cells #[.int .i64 fk, .int .i64 fs, .int .i64 fc, .slice A2 k2 c2] 37)) w3 := ((Below.refl _ _).alloc (by simp) _).grown hg3 (by simp) (by simp [Value.ownBlock])
       have hs3 := hb3.size
       simp at hs3
       clear hg3)
    | (at_builtin
       refine wpList_append_b rfl (.tmp 16) (.tmp 18) rfl (w2.heap.size + 1) A3 k3 c3 _ rfl o3 w.heap.size B m' d y' rfl ((hy2.out.alloc (by omega) _).below (hb3.mono (by omega))) (by omega) hs3 ?_
       intro A4 k4 c4 w4 hk4 hk4' o4 hg4 _
       have hb4 : Below (w2.heap.size + 1) (w2.alloc (.cells #[.int .i64 fk, .int .i64 fs, .int .i64 fc, .slice A2 k2 c2] 37)) w4 := hb3.grown hg4 hs3 (fun g hg => (o3.lt g hg).1)
       have hs4 := hb4.size
       simp at hs4
       clear hg4)
    | (go_at_call 28; (with_reducible refine (NG.out w4.heap.size _ k4 c4 _ (by simpa using o4.reads) (Nat.le_refl _) o4.bounds.1 o4.bounds.2).mono ?_); rintro e w5 ⟨A5, k5, c5, rfl, o5, hb5⟩
       have hs5 := hb5.size
       have f0 := fun o => cell_alloc (cell_below hb5 (cell_below hb4 (cell_new w2 _ 37 _ 0 _ rfl) (by simp)) (by simp; omega)) o
       have f1 := fun o => cell_alloc (cell_below hb5 (cell_below hb4 (cell_new w2 _ 37 _ 1 _ rfl) (by simp)) (by simp; omega)) o
       have f2 := fun o => cell_alloc (cell_below hb5 (cell_below hb4 (cell_new w2 _ 37 _ 2 _ rfl) (by simp)) (by simp; omega)) o
       have f3 := fun o => cell_alloc (cell_below hb5 (cell_below hb4 (cell_new w2 _ 37 _ 3 _ rfl) (by simp)) (by simp; omega)) o
       have hfr := (((o2.reads.alloc (Nat.le_refl _) (.cells #[.int .i64 fk, .int .i64 fs, .int .i64 fc, .slice A2 k2 c2] 37)).below (hb4.mono (by omega))).below (hb5.mono (by omega))).more (B' := w5.heap.size) (by omega)
       have hgr := o5.reads)
    | (go_at_call 29; (with_reducible refine (same_eq _ _ _ _ _ _ _ _ _ _ _ w5.heap.size _ (by simp) (hfr.alloc (Nat.le_refl _) _) (hgr.alloc (Nat.le_refl _) _)).mono ?_); rintro e w6 ⟨rfl, hb6⟩))
  have hB2 : Below w.heap.size w w2 := hb1.trans (hb2.mono hs1)
  have hB4 : Below w.heap.size w w4 := (hB2.alloc (by omega) _).trans (hb4.mono (by omega))
  have hB5 : Below w.heap.size w w5 := hB4.trans (hb5.mono (by omega))
  go_ret
  exact ⟨rfl, (hB5.alloc (by omega) _).trans (hb6.mono (by simp; omega))⟩



theorem goes_walk (A B : Option Addr) (n m c d : Nat) (x y : List UInt8) (w : World) (hx : Reads w w.heap.size 1 A n (x.map bv)) (hy : Reads w w.heap.size 1 B m (y.map bv))
    (hn : n ≤ c) (hc : c ≤ maxLen) (hm : m ≤ d) (hd : d ≤ maxLen) :
    Calls Try.prog 9 #[.slice A n c, .slice B m d] w fun e w' => e = .returned (.bool true) ∧ Below w.heap.size w w' := by
  have hx1 := hx.bytesTake (Nat.min_le_left n 100)
  have hy1 := hy.bytesTake (Nat.min_le_left m 100)
  have F1 := fun w => few6_any A n c w hn hc
  have F2 := fun w => few6_any B m d w hm hd
  have hl : (x.take (min n 100)).length = min n 100 := by simpa using hx1.1
  generalize x.take (min n 100) = x' at *
  generalize y.take (min m 100) = y' at *
  have hn1 : min n 100 ≤ 100 := Nat.min_le_right _ _
  have hm1 : min m 100 ≤ 100 := Nat.min_le_right _ _
  have hn2 : min n 100 ≤ c := by omega
  by_cases h0 : (Fr.next x').kind = 0
  · obtain ⟨h1, h2⟩ := goes_wait x' h0
    rw [hl] at h2
    exact goes_wait_walk A B n m c d x' y' w _ _ hx1 hy1 F1 F2 hn1 hm1 hn2 hc (Fr.next x').code (Fr.next x').body _ _ _ _
      (by cases he : Fr.next x'; rw [he] at h0 h1; subst h0; subst h1; rfl) rfl h2
  · obtain ⟨h1, h2⟩ := goes_size x' h0
    rw [hl] at h2
    by_cases h10 : (Fr.next x').kind = 1
    · obtain ⟨g1, g2, g3⟩ := goes_skip x' y' h10
      rw [hl] at g3
      exact goes_skip_walk A B n m c d x' y' w _ _ hx1 hy1 F1 F2 hn1 hm1 hn2 hc (Fr.next x').size (Fr.next x').code (Fr.next x').body (Fr.next (x' ++ y')).size (Fr.next (x' ++ y')).code (Fr.next (x' ++ y')).body
        (by cases he : Fr.next x'; rw [he] at h10; subst h10; rfl) (by cases he : Fr.next (x' ++ y'); rw [he] at g1; subst g1; rfl) h1 h2 g2 g3
    · have hg := goes_more x' y' h0 h10
      exact goes_other_walk A B n m c d x' y' w _ _ hx1 hy1 F1 F2 hn1 hm1 hn2 hc (Fr.next x').kind (Fr.next x').size (Fr.next x').code (Fr.next x').body rfl hg
        (by rw [beq_eq_false_iff_ne]; omega) (by rw [beq_eq_false_iff_ne]; omega) h1 h2
end Go.Proofs.Ytmjoikjkmdbleaa
