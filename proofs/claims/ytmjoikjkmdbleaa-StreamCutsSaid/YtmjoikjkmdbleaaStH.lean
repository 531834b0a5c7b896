/- Slices of slices of bytes: what they hold; the walks of few and joined. -/
import Derived.Test.YtmjoikjkmdbleaaStF
import Derived.Deep.Matrix
import Derived.Deep.RegionLaw
import Derived.StillTailTactics
import Derived.Outline
namespace Go.Proofs.Ytmjoikjkmdbleaa
open Go.RowKit Crc Fr St
set_option linter.unusedVariables false

/-- The values are slices of bytes that hold the lists; they lie below block B. -/
def Sls (w : World) (B : Nat) (ls : List (List UInt8)) (vs : List Value) : Prop :=
  vs.length = ls.length ∧ ∀ (i : Nat) (l : List UInt8), ls[i]? = some l → ∃ A k c, vs[i]? = some (.slice A k c) ∧ k ≤ c ∧ c ≤ maxLen ∧ Reads w B 1 A k (l.map bv)
section
variable {w w' : World} {B : Nat} {ls : List (List UInt8)} {vs : List Value}
theorem Sls.nil_ : Sls w B [] [] := ⟨rfl, fun i l h => by simp at h⟩
theorem Sls.below (h : Sls w B ls vs) (hb : Below B w w') : Sls w' B ls vs :=
  ⟨h.1, fun i l hi => by
    obtain ⟨A, k, c, h1, h2, h3, h4⟩ := h.2 i l hi
    exact ⟨A, k, c, h1, h2, h3, h4.below hb⟩⟩
theorem Sls.one {A : Option Addr} {k c : Nat} {l : List UInt8} (h1 : k ≤ c) (h2 : c ≤ maxLen) (h3 : Reads w B 1 A k (l.map bv)) : Sls w B [l] [.slice A k c] :=
  ⟨rfl, fun i x hi => by
    cases i with
    | zero => simp at hi; subst hi; exact ⟨A, k, c, rfl, h1, h2, h3⟩
    | succ i => simp at hi⟩
theorem Sls.append {ls' : List (List UInt8)} {vs' : List Value} (h : Sls w B ls vs) (h' : Sls w B ls' vs') : Sls w B (ls ++ ls') (vs ++ vs') := by
  refine ⟨by simp [h.1, h'.1], fun i l hi => ?_⟩
  by_cases hlt : i < ls.length
  · rw [List.getElem?_append_left hlt] at hi
    rw [List.getElem?_append_left (by rw [h.1]; exact hlt)]
    exact h.2 i l hi
  · rw [List.getElem?_append_right (by omega)] at hi
    rw [List.getElem?_append_right (by rw [h.1]; omega), h.1]
    exact h'.2 _ l hi
theorem Sls.oneCell (h : Sls w B ls vs) : ∀ u ∈ vs, u.oneCell' = true := by
  intro u hu
  obtain ⟨i, hi, rfl⟩ := List.getElem_of_mem hu
  have hl : i < ls.length := by rw [← h.1]; exact hi
  obtain ⟨A, k, c, h1, _⟩ := h.2 i _ (List.getElem?_eq_getElem hl)
  rw [List.getElem?_eq_getElem hi] at h1
  injection h1 with h1
  rw [h1]; rfl
end

/-- The slice value at A is a row of the call's own, of slices of bytes that lie below block B. -/
def OwnS (w : World) (base B : Nat) (A : Option Addr) (k c : Nat) (ls : List (List UInt8)) : Prop := ∃ vs, w.ownsRow base 22 1 (.slice A k c) k vs ∧ Sls w B ls vs
section
variable {w w' : World} {base B : Nat} {A : Option Addr} {k c : Nat} {ls : List (List UInt8)}
theorem OwnS.length (h : OwnS w base B A k c ls) : ls.length = k := by
  obtain ⟨vs, h1, h2⟩ := h
  have := h1.1
  have := h2.1
  omega
theorem OwnS.lt (h : OwnS w base B A k c ls) : ∀ g, (Value.slice A k c).ownBlock = some g → base ≤ g ∧ g < w.heap.size := by
  obtain ⟨vs, h1, h2⟩ := h
  exact World.ownsRow.lt h1
theorem OwnS.bounds (h : OwnS w base B A k c ls) : k ≤ c ∧ c ≤ maxLen := by
  obtain ⟨vs, h, _⟩ := h
  rcases h.2 with ⟨h0, h1⟩ | ⟨g, cap, cur, h0, _, _, hn, hm, _⟩
  · injection h0 with _ h2 h3; subst h2 h3; simp
  · injection h0 with _ _ h3; subst h3; exact ⟨hn, hm⟩
theorem OwnS.made0 (w : World) {base B : Nat} (hb : base ≤ w.heap.size) : OwnS (w.alloc (.cells #[] 22)) base B (some ⟨w.heap.size, 0, none⟩) 0 0 [] :=
  ⟨[], World.ownsRow_made w #[] 0 hb (by decide) rfl, Sls.nil_⟩
theorem ownsRow_below {e : TypeId} {size n : Nat} {v : Value} {xs : List Value} (h : w.ownsRow base e size v n xs) (hb : Below w.heap.size w w') : w'.ownsRow base e size v n xs := by
  obtain ⟨h1, h2⟩ := h
  refine ⟨h1, ?_⟩
  rcases h2 with h2 | ⟨g, cap, cur, hv, hg, hh, r⟩
  · exact .inl h2
  · refine .inr ⟨g, cap, cur, hv, hg, ?_, r⟩
    rw [hb.block g]
    · exact hh
    · rcases Nat.lt_or_ge g w.heap.size with h | h
      · exact h
      · rw [Array.getElem?_eq_none h] at hh; cases hh
theorem OwnS.belw (h : OwnS w base B A k c ls) (hB : B ≤ w.heap.size) (hb : Below w.heap.size w w') : OwnS w' base B A k c ls := by
  obtain ⟨vs, h1, h2⟩ := h
  exact ⟨vs, ownsRow_below h1 hb, h2.below (hb.mono hB)⟩
theorem OwnS.alloc (h : OwnS w base B A k c ls) (hB : B ≤ w.heap.size) (o : Obj) : OwnS (w.alloc o) base B A k c ls := h.belw hB ((Below.refl _ _).alloc (Nat.le_refl _) _)
theorem OwnS.mono {base' : Nat} (h : OwnS w base B A k c ls) (hb : base' ≤ base) : OwnS w base' B A k c ls := by
  obtain ⟨vs, h1, h2⟩ := h
  exact ⟨vs, ownsRow_mono h1 hb, h2⟩
/-- What it reads as. -/
theorem OwnS.reads (h : OwnS w base B A k c ls) : ∃ vs, Reads w w.heap.size 1 A k vs ∧ Sls w B ls vs := by
  obtain ⟨vs, h1, h2⟩ := h
  exact ⟨vs, Reads.of_own h1, h2⟩
end

theorem OwnS.drew {w : World} {base B : Nat} {A : Option Addr} {k c : Nat} {ls : List (List UInt8)} (h : OwnS w base B A k c ls) : OwnS w.drew base B A k c ls := h
theorem slice_info : (Try.prog.info? 22).map (fun i => (i.zero, i.size, i.bytes)) = some (some (.slice none 0 0), 1, 24) := by kernel_rfl
theorem under42 : Try.prog.underlying 42 = some (.slice 22) := by kernel_rfl

theorem wpList_append_s {w : World} {ops : Array Oper} {rest : List Oper} {o : Oper} {a : Act} {Q : Exit → Act → World → Prop} (hgd : o.guard = none) (s x : Operand)
    (ho : o.op = .call { callee := .builtin .append, args := #[s, x], argTypes := #[42, 42] })
    (base B0 : Nat) (A : Option Addr) (k c : Nat) (l : List (List UInt8)) (hs : a.eval s = .slice A k c) (hown : OwnS w base B0 A k c l) (hB0 : B0 ≤ base)
    (B : Nat) (A2 : Option Addr) (m c2 : Nat) (news : List (List UInt8)) (nvs : List Value) (hx : a.eval x = .slice A2 m c2) (hr : Reads w B 1 A2 m nvs) (hn : Sls w B0 news nvs)
    (hbd : k + m ≤ 1000000000) (hbase : base ≤ w.heap.size)
    (h : ∀ (A' : Option Addr) (c' : Nat) (w' : World), OwnS w' base B0 A' (k + m) c' (l ++ news) → w.grownBy w' (Value.slice A k c).ownBlock →
      wpList Try.prog ops Q rest (a.put o.dst (.slice A' (k + m) c')) w') : wpList Try.prog ops Q (o :: rest) a w := by
  obtain ⟨i0, hi0, hz0, hz1, hz2⟩ := info_parts slice_info
  obtain ⟨vs, hv1, hv2⟩ := hown
  refine wpList_append_any w hgd s x 42 ho base 22 i0 _ 1 24 under42 hi0 hz0 hz1 hz2 rfl (by omega) _ k _ hs hv1 B A2 m c2 _ hx hr hn.oneCell
    (by simp only [maxLen]; omega) (by omega) hbase ?_
  intro v' w' h1 h2 h3
  have hform : ∃ A' c', v' = .slice A' (k + m) c' := by
    rcases h1.2 with ⟨rfl, h0⟩ | ⟨g, cap, cur, rfl, _⟩
    · exact ⟨none, 0, by rw [h0]⟩
    · exact ⟨_, _, rfl⟩
  obtain ⟨A', c', rfl⟩ := hform
  have hb : Below B0 w w' := (Below.refl _ _).grown h2 (Nat.le_trans hB0 hbase) (fun g hg => Nat.le_trans hB0 (World.ownsRow.lt hv1 g hg).1)
  exact h A' c' w' ⟨_, h1, (hv2.append hn).below hb⟩ h2

theorem step_append_s {w : World} {ops : Array Oper} {o : Oper} {a : Act} {K : Act → World → Prop} {Q : Exit → Act → World → Prop} {E : Prop} (hgd : o.guard = none) (s x : Operand)
    (ho : o.op = .call { callee := .builtin .append, args := #[s, x], argTypes := #[42, 42] })
    (base B0 : Nat) (A : Option Addr) (k c : Nat) (l : List (List UInt8)) (hs : a.eval s = .slice A k c) (hown : OwnS w base B0 A k c l) (hB0 : B0 ≤ base)
    (B : Nat) (A2 : Option Addr) (m c2 : Nat) (news : List (List UInt8)) (nvs : List Value) (hx : a.eval x = .slice A2 m c2) (hr : Reads w B 1 A2 m nvs) (hn : Sls w B0 news nvs)
    (hbd : k + m ≤ 1000000000) (hbase : base ≤ w.heap.size)
    (h : ∀ (A' : Option Addr) (c' : Nat) (w' : World), OwnS w' base B0 A' (k + m) c' (l ++ news) → w.grownBy w' (Value.slice A k c).ownBlock →
      K (a.put o.dst (.slice A' (k + m) c')) w') : if Region.wanted o (yielded ops a.tmps) = true then Oper.wp Try.prog o a w K Q else E := by
  have hw : Region.wanted o (yielded ops a.tmps) = true := by simp [Region.wanted, hgd]
  rw [if_pos hw]
  obtain ⟨i0, hi0, hz0, hz1, hz2⟩ := info_parts slice_info
  obtain ⟨vs, hv1, hv2⟩ := hown
  refine wp_append_any w s x 42 ho base 22 i0 _ 1 24 under42 hi0 hz0 hz1 hz2 rfl (by omega) _ k _ hs hv1 B A2 m c2 _ hx hr hn.oneCell
    (by simp only [maxLen]; omega) (by omega) hbase ?_
  intro v' w' h1 h2 h3
  have hform : ∃ A' c', v' = .slice A' (k + m) c' := by
    rcases h1.2 with ⟨rfl, h0⟩ | ⟨g, cap, cur, rfl, _⟩
    · exact ⟨none, 0, by rw [h0]⟩
    · exact ⟨_, _, rfl⟩
  obtain ⟨A', c', rfl⟩ := hform
  have hb : Below B0 w w' := (Below.refl _ _).grown h2 (Nat.le_trans hB0 hbase) (fun g hg => Nat.le_trans hB0 (World.ownsRow.lt hv1 g hg).1)
  exact h A' c' w' ⟨_, h1, (hv2.append hn).below hb⟩ h2

theorem Reads.open1 {w : World} {B n : Nat} {A : Option Addr} {vs : List Value} (h : Reads w B 1 A n vs) (hn : 0 < n) :
    ∃ b off, A = some ⟨b, off, none⟩ ∧ b < B ∧ ∀ k u, vs[k]? = some u → w.cell? ⟨b, off + k, none⟩ = some u := by
  have hl : vs.length = n * 1 := h.1
  obtain ⟨ad, rfl, hb, hc⟩ := h.2 hn
  obtain ⟨b, off, spot⟩ := ad
  have h0 := hc 0 vs[0] (List.getElem?_eq_getElem (by omega))
  have hs : spot = none := by simpa [Addr.add] using World.cell?_spot h0
  subst hs
  refine ⟨b, off, rfl, hb, fun k u hu => ?_⟩
  have := hc k u hu
  have e : (⟨b, off, none⟩ : Addr).add k = ⟨b, off + k, none⟩ := by unfold Addr.add; split <;> simp_all
  rw [e] at this
  exact this

def fewOf (ls : List (List UInt8)) (i : Nat) : List (List UInt8) := (ls.take i).map (·.take 100)
theorem fewOf_snoc (ls : List (List UInt8)) (i : Nat) (l : List UInt8) (h : ls[i]? = some l) : fewOf ls (i + 1) = fewOf ls i ++ [l.take 100] := by
  unfold fewOf; rw [List.take_add_one, h, List.map_append]; rfl

set_option maxHeartbeats 1000000 in
theorem few7_any (B : Nat) (A : Option Addr) (n c : Nat) (ls : List (List UInt8)) (vs : List Value) (w : World) (hr : Reads w B 1 A n vs) (hs : Sls w B ls vs) (hB : B ≤ w.heap.size) (hn : n ≤ maxLen) :
    Calls Try.prog 35 #[.slice A n c] w fun e w' => ∃ A' k' c', e = .returned (.slice A' k' c') ∧ OwnS w' w.heap.size B A' k' c' (fewOf ls 20) ∧ Below w.heap.size w w' := by
  have hlv : vs.length = n := by simpa using hr.1
  have hll : ls.length = n := by rw [← hs.1]; exact hlv
  have HR := Lib.hid hr
  have HS := Lib.hid hs
  have HLL := Lib.hid hll
  unfold maxLen at hn
  clear hr hs hlv hll
  go_enter Try.func35, Try.ntmps35
  go_wp2
  go_loopw [3, 4] (fun v u wr => ∃ (i : Nat) (A1 : Option Addr) (k1 c1 : Nat), i ≤ n ∧ i ≤ 20 ∧ u = .int .i64 i ∧ v = .slice A1 k1 c1 ∧ OwnS wr w.heap.size B A1 k1 c1 (fewOf ls i) ∧ Below w.heap.size w wr) (fun _ u _ => n - (intOf u).toNat)
  case atStart => exact ⟨0, _, _, _, by omega, by omega, rfl, rfl, by simpa [fewOf] using (OwnS.made0 w (B := B) (Nat.le_refl _)), (Below.refl _ _).alloc (Nat.le_refl _) _⟩
  case round =>
    obtain ⟨i, A1, k1, c1, hi, hi2, rfl, rfl, ho, hbr⟩ := hrel
    have hws := hbr.size
    have hk1 : k1 ≤ 20 := by have := ho.length; simp [fewOf] at this; omega
    have HO := Lib.hid ho
    clear ho
    by_cases hlt : i < n ∧ i < 20
    · obtain ⟨hlt, hlt2⟩ := hlt
      obtain ⟨l, hl⟩ : ∃ l, ls[i]? = some l := ⟨ls[i]'(by rw [HLL.out]; exact hlt), List.getElem?_eq_getElem _⟩
      obtain ⟨X, kx, cx, hx1, hx2, hx3, hx4⟩ := HS.out.2 i l hl
      obtain ⟨b, off, rfl, hbb, hcc⟩ := HR.out.open1 (by omega)
      have f1 : wr.cell? ⟨b, off + i, none⟩ = some (.slice X kx cx) := cell_below (hbr.mono hB) (hcc i _ hx1) hbb
      have HX := Lib.hid hx4
      have HL := Lib.hid hl
      have hlk : l.length = kx := by simpa using hx4.1
      obtain ⟨K, hK1, hK2, hmin, hKe⟩ : ∃ K : Nat, K ≤ kx ∧ K ≤ 100 ∧ (if (100 : Int) < (kx : Int) then (100 : Int) else (kx : Int)) = (K : Int) ∧ l.take 100 = l.take K := by
        by_cases h : kx ≤ 100
        · exact ⟨kx, by omega, h, by rw [if_neg (by omega)], by rw [List.take_of_length_le (by omega), List.take_of_length_le (by omega)]⟩
        · exact ⟨100, by omega, by omega, by rw [if_pos (by omega)]; rfl, rfl⟩
      have hKc : K ≤ cx := by omega
      have HXT := Lib.hid (HX.out.bytesTake hK1)
      have HKE := Lib.hid hKe
      unfold maxLen at hx3
      clear hl hx1 hx4 hcc hKe hlk
      go_wp2
      go_region_law (
        refine step_append_s rfl (.tmp 16) (.tmp 28) rfl w.heap.size B A1 k1 c1 _ (by simp [Act.eval, Act.put]) ((HO.out.alloc (by omega) _).drew) hB (wr.heap.size + 1) (some ⟨wr.heap.size, 0, none⟩) 1 1 [l.take 100] [.slice X K cx] (by simp [Act.eval, Act.put]) (by simpa using (reads_new wr #[.slice X K cx] 22 (0, 0)).drew) (Sls.one (by omega) (by unfold maxLen; omega) (by rw [HKE.out]; exact ((HXT.out.below (hbr.mono hB)).alloc (by omega) _).drew)) (by omega) (by simp; omega) ?_
        intro A3 c3 w3 o3 hg3
        have hb3 : Below w.heap.size w w3 := (below_drewN (hbr.alloc hws _) 1).grown hg3 (by simp; omega) (fun g hg => (HO.out.lt g hg).1)
        clear hg3)
      all_goals
        go_wp2
        go_roundw
        case rel => exact ⟨i + 1, A3, _, c3, by omega, by omega, by go_num, rfl, by rw [fewOf_snoc _ _ _ HL.out]; exact o3, hb3⟩
        case measure => simp [intOf]; omega
    · by_cases hin : i < n
      · obtain rfl : i = 20 := by omega
        clear hlt
        go_wp2
        go_ret
        exact ⟨A1, k1, c1, rfl, HO.out, hbr⟩
      · have he : fewOf ls 20 = fewOf ls i := by unfold fewOf; rw [List.take_of_length_le (by rw [HLL.out]; omega), List.take_of_length_le (by rw [HLL.out]; omega)]
        have HE := Lib.hid he
        clear hlt he
        go_wp2
        go_ret
        exact ⟨A1, k1, c1, rfl, by rw [HE.out]; exact HO.out, hbr⟩

theorem joined_snoc (ls : List (List UInt8)) (i : Nat) (l : List UInt8) (h : ls[i]? = some l) : (ls.take (i + 1)).flatten = (ls.take i).flatten ++ l := by
  rw [List.take_add_one, h, List.flatten_append]; simp
theorem flatten_le (ls : List (List UInt8)) (m : Nat) (h : ∀ l ∈ ls, l.length ≤ m) : ls.flatten.length ≤ ls.length * m := by
  induction ls with
  | nil => simp
  | cons a r ih =>
    have h1 := h a (by simp)
    have h2 := ih (fun l hl => h l (by simp [hl]))
    rw [List.flatten_cons, List.length_append, List.length_cons, Nat.add_mul]; omega

set_option maxHeartbeats 1000000 in
theorem joined7_any (B : Nat) (A : Option Addr) (n c : Nat) (ls : List (List UInt8)) (vs : List Value) (w : World) (hr : Reads w B 1 A n vs) (hs : Sls w B ls vs) (hB : B ≤ w.heap.size) (hn : n ≤ 20) (hl : ∀ l ∈ ls, l.length ≤ 100) :
    Calls Try.prog 36 #[.slice A n c] w fun e w' => ∃ A' k' c', e = .returned (.slice A' k' c') ∧ OwnB w' w.heap.size A' k' c' ls.flatten ∧ Below w.heap.size w w' := by
  have hlv : vs.length = n := by simpa using hr.1
  have hll : ls.length = n := by rw [← hs.1]; exact hlv
  have HR := Lib.hid hr
  have HS := Lib.hid hs
  have HLL := Lib.hid hll
  have HLN := Lib.hid hl
  clear hr hs hlv hll hl
  go_enter Try.func36, Try.ntmps36
  go_wp2
  go_loopw [3, 4] (fun v u wr => ∃ (i : Nat) (A1 : Option Addr) (k1 c1 : Nat), i ≤ n ∧ u = .int .i64 i ∧ v = .slice A1 k1 c1 ∧ OwnB wr w.heap.size A1 k1 c1 (ls.take i).flatten ∧ Below w.heap.size w wr) (fun _ u _ => n - (intOf u).toNat)
  case atStart => exact ⟨0, _, _, _, by omega, rfl, rfl, by simpa using (OwnB.made0 w (Nat.le_refl _)), (Below.refl _ _).alloc (Nat.le_refl _) _⟩
  case round =>
    obtain ⟨i, A1, k1, c1, hi, rfl, rfl, ho, hbr⟩ := hrel
    have hws := hbr.size
    have hk1 : k1 ≤ 2000 := by
      have h1 := ho.length
      have h2 := flatten_le (ls.take i) 100 (fun l hl => HLN.out l (List.mem_of_mem_take hl))
      have h3 := List.length_take_le i ls
      have h4 := Nat.mul_le_mul_right 100 h3
      omega
    have HO := Lib.hid ho
    clear ho
    by_cases hlt : i < n
    · obtain ⟨l, hl⟩ : ∃ l, ls[i]? = some l := ⟨ls[i]'(by rw [HLL.out]; exact hlt), List.getElem?_eq_getElem _⟩
      obtain ⟨X, kx, cx, hx1, hx2, hx3, hx4⟩ := HS.out.2 i l hl
      obtain ⟨b, off, rfl, hbb, hcc⟩ := HR.out.open1 (by omega)
      have f1 : wr.cell? ⟨b, off + i, none⟩ = some (.slice X kx cx) := cell_below (hbr.mono hB) (hcc i _ hx1) hbb
      have hkx : kx ≤ 100 := by have h1 := HLN.out l (List.mem_of_getElem? hl); have h2 := hx4.1; simp at h2; omega
      have HX := Lib.hid (hx4.below (hbr.mono hB))
      have HL := Lib.hid hl
      clear hl hx1 hx4 hcc
      go_wp2_with (
        at_builtin
        refine wpList_append_b rfl (.tmp 12) (.tmp 16) rfl w.heap.size A1 k1 c1 _ rfl HO.out B X kx cx l rfl HX.out (by omega) (by omega) ?_
        intro A3 k3 c3 w3 hk3 hk3' o3 hg3 _
        have hb3 : Below w.heap.size w w3 := hbr.grown hg3 (by omega) (fun g hg => (HO.out.lt g hg).1)
        clear hg3)
      go_roundw
      case rel => exact ⟨i + 1, _, _, _, by omega, by go_num, rfl, by rw [joined_snoc _ _ _ HL.out]; exact o3, hb3⟩
      case measure => simp [intOf]; omega
    · have he : ls.flatten = (ls.take i).flatten := by rw [List.take_of_length_le (by rw [HLL.out]; omega)]
      have HE := Lib.hid he
      clear he
      go_wp2
      go_ret
      exact ⟨A1, k1, c1, rfl, by rw [HE.out]; exact HO.out, hbr⟩
end Go.Proofs.Ytmjoikjkmdbleaa
