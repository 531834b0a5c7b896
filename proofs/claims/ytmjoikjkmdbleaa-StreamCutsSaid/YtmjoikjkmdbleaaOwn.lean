/- A row of bytes of the call's own, and an append of bytes onto it; over the program's table of types alone. -/
import Derived.Test.YtmjoikjkmdbleaaCrcC
import Derived.Laws.CopyOwn
import Derived.Laws.MakeOwn
namespace Go.Proofs.Ytmjoikjkmdbleaa
open Go.RowKit Crc

/-- The slice value at A, of k bytes, is a row of the call's own (from block 'base' on), and holds l. -/
def OwnB (w : World) (base : Nat) (A : Option Addr) (k c : Nat) (l : List UInt8) : Prop := w.ownsRow base 5 1 (.slice A k c) k (l.map bv)

section
variable {w w' : World} {base k c : Nat} {A : Option Addr} {l : List UInt8}
theorem OwnB.reads (h : OwnB w base A k c l) : Reads w w.heap.size 1 A k (l.map bv) := Reads.of_own h
theorem OwnB.length (h : OwnB w base A k c l) : l.length = k := by simpa using h.1
theorem OwnB.bounds (h : OwnB w base A k c l) : k ≤ c ∧ c ≤ maxLen := by
  rcases h.2 with ⟨h0, h1⟩ | ⟨g, cap, cur, h0, _, _, hn, hm, _⟩
  · injection h0 with _ h2 h3; subst h2 h3; simp
  · injection h0 with _ _ h3; subst h3; exact ⟨hn, hm⟩
theorem OwnB.nil (w : World) (base : Nat) : OwnB w base none 0 0 [] := World.ownsRow_nil _ _ _ _
theorem OwnB.made0 (w : World) {base : Nat} (hb : base ≤ w.heap.size) : OwnB (w.alloc (.cells #[] 5)) base (some ⟨w.heap.size, 0, none⟩) 0 0 [] :=
  World.ownsRow_made w #[] 0 hb (by decide) rfl
theorem OwnB.lt (h : OwnB w base A k c l) : ∀ g, (Value.slice A k c).ownBlock = some g → base ≤ g ∧ g < w.heap.size := World.ownsRow.lt h
theorem OwnB.drew (h : OwnB w base A k c l) : OwnB w.drew base A k c l := h
theorem OwnB.alloc (h : OwnB w base A k c l) (o : Obj) : OwnB (w.alloc o) base A k c l := World.ownsRow.alloc h o
theorem OwnB.below (h : OwnB w base A k c l) (hb : Below w.heap.size w w') : OwnB w' base A k c l := by
  obtain ⟨h1, h2⟩ := h
  refine ⟨h1, ?_⟩
  rcases h2 with h2 | ⟨g, cap, cur, hv, hg, hh, r⟩
  · exact .inl h2
  · refine .inr ⟨g, cap, cur, hv, hg, ?_, r⟩
    rw [hb.block g]
    · exact hh
    · rcases Nat.lt_or_ge g w.heap.size with h | h
      · exact h
      · rw [Array.getElem?_eq_none h] at hh; cases hh
theorem OwnB.grown (h : OwnB w base A k c l) {row : Option Nat} (hg : w.grownBy w' row) (hne : ∀ g, A = some ⟨g, 0, none⟩ → row ≠ some g) : OwnB w' base A k c l := by
  obtain ⟨h1, h2⟩ := h
  refine ⟨h1, ?_⟩
  rcases h2 with h2 | ⟨g, cap, cur, hv, hb, hh, r⟩
  · exact .inl h2
  · refine .inr ⟨g, cap, cur, hv, hb, ?_, r⟩
    rw [hg.block g]
    · exact hh
    · rcases Nat.lt_or_ge g w.heap.size with h | h
      · exact h
      · rw [Array.getElem?_eq_none h] at hh; cases hh
    · intro e
      injection hv with hv
      exact hne g hv e.symm
theorem OwnB.ltg {g : Nat} (h : OwnB w base (some ⟨g, 0, none⟩) k c l) : base ≤ g ∧ g < w.heap.size := h.lt g rfl
/-- A byte of the row: its address, its cell, that it may be written. -/
theorem OwnB.at_ (h : OwnB w base A k c l) {i : Nat} (hi : i < k) : ∃ g, A = some ⟨g, 0, none⟩ ∧ base ≤ g ∧ g < w.heap.size ∧ w.cell? ⟨g, i, none⟩ = some (bv (l.getD i 0)) ∧ w.frozen? ⟨g, i, none⟩ = false := by
  have hl := h.length
  rcases h.2 with ⟨_, h1⟩ | ⟨g, cap, cur, h0, hb, hh, hn, hm, hs, ht⟩
  · omega
  · injection h0 with h0 _ _
    subst h0
    have hg : g < w.heap.size := by
      rcases Nat.lt_or_ge g w.heap.size with h | h
      · exact h
      · rw [Array.getElem?_eq_none h] at hh; cases hh
    refine ⟨g, rfl, hb, hg, ?_, by simp [World.frozen?, hh]⟩
    rw [cell_of_row w g i cur 5 (0, 0) hh]
    have h1 : (cur.toList.take (k * 1))[i]? = cur[i]? := by rw [List.getElem?_take, if_pos (by omega)]; simp
    rw [← h1, ht, List.getElem?_map, List.getD_eq_getElem?_getD, List.getElem?_eq_getElem (by omega)]
    rfl
theorem OwnB.get (h : OwnB w base A k c l) {i : Nat} (hi : i < k) : ∃ g u, A = some ⟨g, 0, none⟩ ∧ base ≤ g ∧ g < w.heap.size ∧ l[i]? = some u ∧ w.cell? ⟨g, i, none⟩ = some (.int .u8 (u.toNat : Int)) ∧ w.frozen? ⟨g, i, none⟩ = false := by
  obtain ⟨g, h1, h2, h3, h4, h5⟩ := h.at_ hi
  have hl := h.length
  have e : l[i]? = some (l.getD i 0) := by rw [List.getD_eq_getElem?_getD, List.getElem?_eq_getElem (by omega)]; rfl
  exact ⟨g, l.getD i 0, h1, h2, h3, e, h4, h5⟩
theorem OwnB.get' {g : Nat} (h : OwnB w base (some ⟨g, 0, none⟩) k c l) {i : Nat} (hi : i < k) {u : UInt8} (hu : l[i]? = some u) : w.cell? ⟨g, i, none⟩ = some (.int .u8 (u.toNat : Int)) ∧ w.frozen? ⟨g, i, none⟩ = false := by
  obtain ⟨g', u', h1, _, _, h4, h5, h6⟩ := h.get hi
  obtain rfl : g = g' := by injection h1 with h; injection h
  rw [hu] at h4
  injection h4 with h4
  subst h4
  exact ⟨h5, h6⟩
/-- A byte of the row written. -/
theorem OwnB.set_ (h : OwnB w base A k c l) {i : Nat} (hi : i < k) (x : UInt8) {g : Nat} (hA : A = some ⟨g, 0, none⟩) : OwnB (w.setCell ⟨g, i, none⟩ (bv x)) base A k c (l.set i x) := by
  have hl := h.length
  rcases h.2 with ⟨_, h1⟩ | ⟨g', cap, cur, h0, hb, hh, hn, hm, hs, ht⟩
  · omega
  · subst hA
    injection h0 with h0 _ h3
    injection h0 with h0
    injection h0 with h0 _ _
    subst h0 h3
    refine ⟨by simp [hl], .inr ⟨g, c, cur.setIfInBounds i (bv x), rfl, hb, ?_, hn, hm, by simpa using hs, ?_⟩⟩
    · simp [World.setCell, Array.getElem?_modify, hh]
    · rw [Array.toList_setIfInBounds, List.take_set, ht, List.map_set]
end

theorem u8_info : (Try.prog.info? 5).map (fun i => (i.zero, i.size, i.bytes)) = some (some (.int .u8 0), 1, 1) := by kernel_rfl

theorem oneCell_bytes (l : List UInt8) : ∀ u ∈ l.map bv, u.oneCell' = true := by
  intro u hu
  obtain ⟨c, _, rfl⟩ := List.mem_map.1 hu
  rfl

theorem wpList_append_b {w : World} {ops : Array Oper} {rest : List Oper} {o : Oper} {a : Act} {Q : Exit → Act → World → Prop} (hgd : o.guard = none) (s x : Operand)
    (ho : o.op = .call { callee := .builtin .append, args := #[s, x], argTypes := #[22, 22] })
    (base : Nat) (A : Option Addr) (k c : Nat) (l : List UInt8) (hs : a.eval s = .slice A k c) (hown : OwnB w base A k c l)
    (B : Nat) (A2 : Option Addr) (m c2 : Nat) (news : List UInt8) (hx : a.eval x = .slice A2 m c2) (hr : Reads w B 1 A2 m (news.map bv))
    (hbd : k + m ≤ 1000000000) (hbase : base ≤ w.heap.size)
    (h : ∀ (A' : Option Addr) (k' c' : Nat) (w' : World), k' ≤ k + m → k + m ≤ k' → OwnB w' base A' k' c' (l ++ news) → w.grownBy w' (Value.slice A k c).ownBlock →
      ((Value.slice A' k' c').ownBlock = (Value.slice A k c).ownBlock ∨ (Value.slice A' k' c').ownBlock = some w.heap.size) →
      wpList Try.prog ops Q rest (a.put o.dst (.slice A' k' c')) w') : wpList Try.prog ops Q (o :: rest) a w := by
  obtain ⟨i0, hi0, hz0, hz1, hz2⟩ := info_parts u8_info
  refine wpList_append_any w hgd s x 22 ho base 5 i0 _ 1 1 Try.underlying22 hi0 hz0 hz1 hz2 rfl (by omega) _ k _ hs hown B A2 m c2 _ hx hr (oneCell_bytes _)
    (by simp only [maxLen]; omega) (by omega) hbase ?_
  intro v' w' h1 h2 h3
  rw [← List.map_append] at h1
  have hform : ∃ A' c', v' = .slice A' (k + m) c' := by
    rcases h1.2 with ⟨rfl, h0⟩ | ⟨g, cap, cur, rfl, _⟩
    · exact ⟨none, 0, by rw [h0]⟩
    · exact ⟨_, _, rfl⟩
  obtain ⟨A', c', rfl⟩ := hform
  exact h A' (k + m) c' w' (Nat.le_refl _) (Nat.le_refl _) h1 h2 h3

/-- The same at a guarded operation that is wanted. -/
theorem wpList_append_bg {w : World} {ops : Array Oper} {rest : List Oper} {o : Oper} {a : Act} {Q : Exit → Act → World → Prop} (hgd : Region.wanted o (yielded ops a.tmps) = true) (s x : Operand)
    (ho : o.op = .call { callee := .builtin .append, args := #[s, x], argTypes := #[22, 22] })
    (base : Nat) (A : Option Addr) (k c : Nat) (l : List UInt8) (hs : a.eval s = .slice A k c) (hown : OwnB w base A k c l)
    (B : Nat) (A2 : Option Addr) (m c2 : Nat) (news : List UInt8) (hx : a.eval x = .slice A2 m c2) (hr : Reads w B 1 A2 m (news.map bv))
    (hbd : k + m ≤ 1000000000) (hbase : base ≤ w.heap.size)
    (h : ∀ (A' : Option Addr) (k' c' : Nat) (w' : World), k' ≤ k + m → k + m ≤ k' → OwnB w' base A' k' c' (l ++ news) → w.grownBy w' (Value.slice A k c).ownBlock →
      ((Value.slice A' k' c').ownBlock = (Value.slice A k c).ownBlock ∨ (Value.slice A' k' c').ownBlock = some w.heap.size) →
      wpList Try.prog ops Q rest (a.put o.dst (.slice A' k' c')) w') : wpList Try.prog ops Q (o :: rest) a w := by
  obtain ⟨i0, hi0, hz0, hz1, hz2⟩ := info_parts u8_info
  refine wpList_step (fun K hK => ?_)
  rw [if_pos hgd]
  refine wp_append_any w s x 22 ho base 5 i0 _ 1 1 Try.underlying22 hi0 hz0 hz1 hz2 rfl (by omega) _ k _ hs hown B A2 m c2 _ hx hr (oneCell_bytes _)
    (by simp only [maxLen]; omega) (by omega) hbase ?_
  intro v' w' h1 h2 h3
  rw [← List.map_append] at h1
  have hform : ∃ A' c', v' = .slice A' (k + m) c' := by
    rcases h1.2 with ⟨rfl, h0⟩ | ⟨g, cap, cur, rfl, _⟩
    · exact ⟨none, 0, by rw [h0]⟩
    · exact ⟨_, _, rfl⟩
  obtain ⟨A', c', rfl⟩ := hform
  exact hK _ _ (h A' (k + m) c' w' (Nat.le_refl _) (Nat.le_refl _) h1 h2 h3)

theorem wpList_make_b {w : World} {ops : Array Oper} {rest : List Oper} {o : Oper} {a : Act} {Q : Exit → Act → World → Prop}
    (hg : o.guard = none) (l c : Operand) (hop : o.op = Op.makeSlice 22 l c) (base : Nat) (kl kc : IntKind) (n : Nat) (hl : a.eval l = .int kl n) (hc : a.eval c = .int kc n)
    (hn : n ≤ 1000000000) (hbase : base ≤ w.heap.size)
    (h : ∀ w', OwnB w' base (some ⟨w.heap.size, 0, none⟩) n n (List.replicate n 0) → w.grownBy w' none → wpList Try.prog ops Q rest (a.put o.dst (.slice (some ⟨w.heap.size, 0, none⟩) n n)) w') :
    wpList Try.prog ops Q (o :: rest) a w := by
  obtain ⟨i0, hi0, hz0, hz1, hz2⟩ := info_parts u8_info
  refine wpList_make_full w hg l c 22 hop base 5 i0 _ 1 Try.underlying22 hi0 hz0 hz1 kl kc n n n hl hc rfl rfl (by rw [hz2]; omega) (by simp only [maxLen]; omega) hbase ?_
  intro w' h1 h2
  refine h w' ?_ h2
  have e : (madeCells (Value.int IntKind.u8 0).cells (n * 1)).toList = (List.replicate n (0 : UInt8)).map bv := by
    apply List.ext_getElem
    · simp [madeCells]
    · intro i hi hi'
      simp [madeCells, Value.cells, bv, Nat.mod_one]
  rw [e] at h1
  exact h1

theorem wpList_copy_b {w : World} {ops : Array Oper} {rest : List Oper} {o : Oper} {a : Act} {Q : Exit → Act → World → Prop} (hgd : o.guard = none) (d s : Operand)
    (ho : o.op = .call { callee := .builtin .copy, args := #[d, s], argTypes := #[22, 22] }) (base : Nat) (A : Option Addr) (n c : Nat) (l : List UInt8) (hd : a.eval d = .slice A n c) (hown : OwnB w base A n c l)
    (B : Nat) (A2 : Option Addr) (m c2 : Nat) (src : List UInt8) (hs : a.eval s = .slice A2 m c2) (hr : Reads w B 1 A2 m (src.map bv))
    (h : ∀ (k : Nat) w', OwnB w' base A n c (src.take l.length ++ l.drop src.length) → w.grownBy w' (Value.slice A n c).ownBlock → wpList Try.prog ops Q rest (a.put o.dst (goInt k)) w') :
    wpList Try.prog ops Q (o :: rest) a w := by
  have hsz : (Try.prog.info? 5).map (·.size) = some 1 := by kernel_rfl
  have hln := hown.length
  have hlm : src.length = m := by simpa using hr.1
  by_cases h0 : Nat.min m n = 0
  · refine wpList_copy_nothing hgd d s 22 22 ho 5 Try.underlying22 hsz A A2 n c m c2 hd hs h0 ?_
    refine h 0 w ?_ (World.grownBy.refl w _)
    have : src.take l.length ++ l.drop src.length = l := by
      rcases Nat.min_eq_zero_iff.1 h0 with h1 | h1
      · obtain rfl : src = [] := List.eq_nil_of_length_eq_zero (by omega)
        simp
      · obtain rfl : l = [] := List.eq_nil_of_length_eq_zero (by omega)
        simp
    rw [this]
    exact hown
  · have hn0 : 0 < n := by
      rcases Nat.eq_zero_or_pos n with h1 | h1
      · subst h1; exact absurd (Nat.min_eq_right (Nat.zero_le m)) h0
      · exact h1
    have hm0 : 0 < m := by
      rcases Nat.eq_zero_or_pos m with h1 | h1
      · subst h1; exact absurd (Nat.min_eq_left (Nat.zero_le n)) h0
      · exact h1
    obtain ⟨ad, rfl, _, hcell⟩ := hr.2 hm0
    rcases hown.2 with ⟨_, h1⟩ | ⟨g, cap, cur, hv, hb, hh, hnc, hcm, hcs, htk⟩
    · omega
    · injection hv with h1 h2 h3
      subst h1 h3
      have hmn : Nat.min m n ≤ m := Nat.min_le_left _ _
      have hmn' : Nat.min m n ≤ n := Nat.min_le_right _ _
      have hcl : cur.size = c := by simpa using hcs
      refine wpList_copy_own hgd d s 22 22 ho 5 Try.underlying22 hsz g 0 n c ad m c2 hd hs cur 5 hh ((src.take n).map bv) ?_ ?_ ?_ ?_ ?_
      · simp only [List.length_map, List.length_take, hlm]
        exact Nat.min_comm _ _
      · intro j v hj
        apply hcell
        rw [List.getElem?_map, List.getElem?_take] at hj
        split at hj
        · rw [List.getElem?_map]; exact hj
        · cases hj
      · simp only [List.length_map, List.length_take]; omega
      · exact oneCell_bytes _
      · have hw' : (w.setRow g (cur.toList.take 0 ++ ((src.take n).map bv ++ cur.toList.drop (0 + ((src.take n).map bv).length))).toArray).heap[g]? = some (.cells ((src.take n).map bv ++ cur.toList.drop ((src.take n).map bv).length).toArray 5 (0, 0)) := by
          rw [setRow_heap w g _ _ 5 _ hh]; simp
        have hg' : g < w.heap.size := by
          rcases Nat.lt_or_ge g w.heap.size with h | h
          · exact h
          · rw [Array.getElem?_eq_none h] at hh; cases hh
        refine h _ _ ?_ ⟨rfl, rfl, rfl, by simp [World.setRow], fun k _ hne => setRow_other w g k _ (fun e => hne (by rw [e]; rfl))⟩
        refine ⟨by simp; omega, .inr ⟨g, c, _, rfl, hb, hw', hnc, hcm, by simp; omega, ?_⟩⟩
        have hp : ((src.take n).map bv).length = Nat.min n m := by simp [hlm]
        have hpn : Nat.min n m ≤ n := Nat.min_le_left _ _
        show List.take (n * 1) ((src.take n).map bv ++ cur.toList.drop ((src.take n).map bv).length) = _
        rw [List.take_append, List.take_of_length_le (by rw [hp]; omega), hp, List.take_drop, List.map_append, hln, show Nat.min n m + (n * 1 - Nat.min n m) = n * 1 by omega, htk, ← List.map_drop]
        congr 2
        rcases Nat.le_total n m with h1 | h1
        · rw [show Nat.min n m = n from Nat.min_eq_left h1, List.drop_eq_nil_of_le (by omega), List.drop_eq_nil_of_le (by omega)]
        · rw [show Nat.min n m = m from Nat.min_eq_right h1, hlm]

theorem reads_new_b (w : World) (l : List UInt8) (C : Array Value) (e : TypeId) (m : Nat × Nat) (n : Nat) (hC : C.toList = l.map bv) (hn : n = l.length) : Reads (w.alloc (.cells C e m)) (w.heap.size + 1) 1 (some ⟨w.heap.size, 0, none⟩) n (l.map bv) := by
  have := reads_new w C e m
  rw [hC] at this
  have hs : C.size = n := by rw [← Array.length_toList, hC, List.length_map, hn]
  rw [hs] at this
  exact this

theorem hi_toNat (s : BitVec 16) : ((hi s).toNat : Int) = (s.toNat : Int) / 256 := by
  have h : (hi s).toNat = s.toNat / 256 := by
    unfold hi
    simp only [UInt8.toNat_ofBitVec, BitVec.toNat_setWidth, BitVec.toNat_ushiftRight, Nat.shiftRight_eq_div_pow]
    have := s.isLt
    omega
  rw [h]; rfl
theorem lo_toNat (s : BitVec 16) : ((lo s).toNat : Int) = (s.toNat : Int) % 256 := by
  have h : (lo s).toNat = s.toNat % 256 := by
    unfold lo
    simp only [UInt8.toNat_ofBitVec, BitVec.toNat_setWidth]
  rw [h]; rfl
theorem and_255 (s : BitVec 16) : bits BinOp.and IntKind.u16 (s.toNat : Int) 255 = (s.toNat : Int) % 256 := by
  have h := bits_and_u16 s 255#16
  rw [show ((255#16).toNat : Int) = 255 from rfl] at h
  rw [h, BitVec.toNat_and]
  have : s.toNat &&& (255#16).toNat = s.toNat % 256 := Nat.and_two_pow_sub_one_eq_mod s.toNat 8
  rw [this]
  rfl
theorem two_bytes (s : BitVec 16) : [Value.int IntKind.u8 ((s.toNat : Int) / 256), Value.int IntKind.u8 (bits BinOp.and IntKind.u16 (s.toNat : Int) 255 % 256)] = [hi s, lo s].map bv := by
  simp only [List.map_cons, List.map_nil, bv, hi_toNat, lo_toNat, and_255]
  rw [show (s.toNat : Int) % 256 % 256 = (s.toNat : Int) % 256 by omega]

set_option maxHeartbeats 400000 in
theorem whole_any (B : Nat) (A : Option Addr) (n c : Nat) (l : List UInt8) (w : World) (hr : Reads w B 1 A n (l.map bv)) (hB : B ≤ w.heap.size) (hn : n ≤ 300) :
    Calls Try.prog 25 #[.slice A n c] w fun e w' => ∃ A' k' c', e = .returned (.slice A' k' c') ∧ OwnB w' w.heap.size A' k' c' (l ++ [hi (sum l), lo (sum l)]) ∧ Below w.heap.size w w' := by
  have hm : n ≤ maxLen := by unfold maxLen; omega
  have h2 := Lib.hid (two_bytes (sum l))
  go_enter Try.func25, Try.ntmps25
  go_wp2_with (first
    | (go_at_call 21; (with_reducible refine (sum_any _ _ _ _ _ _ hr hm).mono ?_); rintro e w' ⟨rfl, rfl⟩)
    | (at_builtin
       refine wpList_append_b rfl (.tmp 6) (.tmp 7) rfl w.heap.size (some ⟨w.heap.size, 0, none⟩) 0 0 [] rfl (OwnB.made0 w (Nat.le_refl _)) B A n c l rfl (hr.alloc hB _) (by omega) (by simp) ?_
       intro A1 k1 c1 w1 hk1 hk1' hown1 hg1 hat1
       have hb1 : Below w.heap.size w w1 := ((Below.refl _ _).alloc (Nat.le_refl _) _).grown hg1 (by simp) (by simp [Value.ownBlock])
       have hs1 := hb1.size)
    | (at_builtin
       refine wpList_append_b rfl (.tmp 8) (.tmp 15) rfl w.heap.size A1 k1 c1 ([] ++ l) rfl (hown1.alloc _) (w1.heap.size + 1) (some ⟨w1.heap.size, 0, none⟩) 2 2 [hi (sum l), lo (sum l)] rfl (reads_new_b w1 _ _ 5 (0, 0) 2 h2.out rfl) (by omega) (by simp; omega) ?_
       intro A2 k2 c2 w2 hk2 hk2' hown2 hg2 hat2
       have hb2 : Below w.heap.size w w2 := (hb1.alloc hs1 _).grown hg2 (by simp; omega) (fun g hg => (hown1.lt g hg).1)))
  go_ret
  exact ⟨A2, k2, c2, rfl, by simpa using hown2, hb2⟩
end Go.Proofs.Ytmjoikjkmdbleaa
