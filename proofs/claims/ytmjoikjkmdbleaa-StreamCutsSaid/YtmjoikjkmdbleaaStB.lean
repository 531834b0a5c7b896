/- Rows of items in memory: what they hold, how they grow; over the program's table of types alone. -/
import Derived.Test.YtmjoikjkmdbleaaStA
import Derived.Test.YtmjoikjkmdbleaaFrF
namespace Go.Proofs.Ytmjoikjkmdbleaa
open Go.RowKit Crc Fr St
set_option linter.unusedVariables false

/-- The slice value at A of k bytes holds b; its block is a good one. -/
def Bd (w : World) (good : Nat → Prop) (A : Option Addr) (k c : Nat) (b : List UInt8) : Prop :=
  b.length = k ∧ k ≤ c ∧ c ≤ maxLen ∧ (0 < k → ∃ ad, A = some ad ∧ good ad.block ∧ ad.block < w.heap.size ∧ ∀ j u, b[j]? = some u → w.cell? (ad.add j) = some (bv u))
/-- The cells vs hold the items: two cells an item. -/
def Its (w : World) (good : Nat → Prop) : List It → List Value → Prop
  | [], [] => True
  | (c, b) :: r, u :: v :: vs => u = .int .i64 (c : Int) ∧ (∃ A k cc, v = .slice A k cc ∧ Bd w good A k cc b) ∧ Its w good r vs
  | _, _ => False

section
variable {w w' : World} {good good' : Nat → Prop}
theorem Bd.reads {A : Option Addr} {k c : Nat} {b : List UInt8} (h : Bd w good A k c b) : Reads w w.heap.size 1 A k (b.map bv) := by
  refine ⟨by simpa using h.1, fun hk => ?_⟩
  obtain ⟨ad, h1, _, h2, h3⟩ := h.2.2.2 hk
  refine ⟨ad, h1, h2, fun j u hu => ?_⟩
  rw [List.getElem?_map] at hu
  cases hb : b[j]? with
  | none => rw [hb] at hu; cases hu
  | some x => rw [hb] at hu; injection hu with hu; rw [← hu]; exact h3 j x hb
theorem Bd.keep {A : Option Addr} {k c : Nat} {b : List UInt8} (h : Bd w good A k c b) (hs : w.heap.size ≤ w'.heap.size) (hk : ∀ p, good p → p < w.heap.size → w'.heap[p]? = w.heap[p]?) (hg : ∀ p, good p → good' p) : Bd w' good' A k c b := by
  refine ⟨h.1, h.2.1, h.2.2.1, fun h0 => ?_⟩
  obtain ⟨ad, h1, h2, h3, h4⟩ := h.2.2.2 h0
  refine ⟨ad, h1, hg _ h2, by omega, fun j u hu => ?_⟩
  rw [← h4 j u hu]
  exact World.cell?_of_block (by rw [block_of_add]; exact hk _ h2 h3)
theorem Its.keep (hs : w.heap.size ≤ w'.heap.size) (hk : ∀ p, good p → p < w.heap.size → w'.heap[p]? = w.heap[p]?) (hg : ∀ p, good p → good' p) : ∀ {its : List It} {vs : List Value}, Its w good its vs → Its w' good' its vs
  | [], [], _ => trivial
  | (c, b) :: r, u :: v :: vs, ⟨h1, ⟨A, k, cc, h2, h3⟩, h4⟩ => ⟨h1, ⟨A, k, cc, h2, h3.keep hs hk hg⟩, Its.keep hs hk hg h4⟩
  | [], _ :: _, h => h.elim
  | (_, _) :: _, [], h => h.elim
  | (_, _) :: _, [_], h => h.elim
theorem Its.length : ∀ {its : List It} {vs : List Value}, Its w good its vs → vs.length = its.length * 2
  | [], [], _ => rfl
  | (c, b) :: r, u :: v :: vs, ⟨_, _, h4⟩ => by have := Its.length h4; simp; omega
  | [], _ :: _, h => h.elim
  | (_, _) :: _, [], h => h.elim
  | (_, _) :: _, [_], h => h.elim
theorem Its.append : ∀ {a b : List It} {va vb : List Value}, Its w good a va → Its w good b vb → Its w good (a ++ b) (va ++ vb)
  | [], b, [], vb, _, hb => hb
  | (c, x) :: r, b, u :: v :: vs, vb, ⟨h1, h2, h4⟩, hb => ⟨h1, h2, Its.append h4 hb⟩
  | [], _, _ :: _, _, h, _ => h.elim
  | (_, _) :: _, _, [], _, h, _ => h.elim
  | (_, _) :: _, _, [_], _, h, _ => h.elim
theorem Its.oneCell : ∀ {its : List It} {vs : List Value}, Its w good its vs → ∀ u ∈ vs, u.oneCell' = true
  | [], [], _, u, hu => by cases hu
  | (c, b) :: r, u :: v :: vs, ⟨h1, ⟨A, k, cc, h2, _⟩, h4⟩, x, hx => by
    rcases List.mem_cons.1 hx with rfl | hx
    · rw [h1]; rfl
    · rcases List.mem_cons.1 hx with rfl | hx
      · rw [h2]; rfl
      · exact Its.oneCell h4 x hx
  | [], _ :: _, h, _, _ => h.elim
  | (_, _) :: _, [], h, _, _ => h.elim
  | (_, _) :: _, [_], h, _, _ => h.elim
theorem Its.get : ∀ {its : List It} {vs : List Value} {i : Nat} {c : Nat} {b : List UInt8}, Its w good its vs → its[i]? = some (c, b) →
    vs[i * 2]? = some (.int .i64 (c : Int)) ∧ ∃ A k cc, vs[i * 2 + 1]? = some (.slice A k cc) ∧ Bd w good A k cc b
  | (c, b) :: r, u :: v :: vs, 0, _, _, ⟨h1, ⟨A, k, cc, h2, h3⟩, _⟩, h => by
    simp at h
    obtain ⟨rfl, rfl⟩ := h
    exact ⟨by simp [h1], A, k, cc, by simp [h2], h3⟩
  | (c, b) :: r, u :: v :: vs, i + 1, _, _, ⟨_, _, h4⟩, h => by
    have := Its.get h4 (i := i) (by simpa using h)
    simpa [Nat.add_mul] using this
  | [], _, _, _, _, _, h => by simp at h
  | (_, _) :: _, [], _, _, _, h, _ => h.elim
  | (_, _) :: _, [_], _, _, _, h, _ => h.elim

/-- A block of bytes, of the call's own. -/
def g5 (w : World) (base b : Nat) : Prop := base ≤ b ∧ ∃ cur m, w.heap[b]? = some (.cells cur 5 m)
theorem g5.lt {base b : Nat} (h : g5 w base b) : b < w.heap.size := by
  obtain ⟨_, cur, m, h⟩ := h
  rcases Nat.lt_or_ge b w.heap.size with h1 | h1
  · exact h1
  · rw [Array.getElem?_eq_none h1] at h; cases h
theorem g5.of_eq {base b : Nat} (h : g5 w base b) (he : w'.heap[b]? = w.heap[b]?) : g5 w' base b := ⟨h.1, by obtain ⟨cur, m, h2⟩ := h.2; exact ⟨cur, m, by rw [he]; exact h2⟩⟩
theorem Bd.of_own {base base' : Nat} {A : Option Addr} {k c : Nat} {b : List UInt8} (h : OwnB w base A k c b) (hb : base' ≤ base) : Bd w (g5 w base') A k c b := by
  have hl := h.length
  have hbd := h.bounds
  refine ⟨hl, hbd.1, hbd.2, fun h0 => ?_⟩
  obtain ⟨ad, h1, h2, h3⟩ := h.reads.2 h0
  rcases h.2 with ⟨_, h4⟩ | ⟨g, cap, cur, hv, hg, hh, _⟩
  · omega
  · injection hv with hv _ _
    rw [hv] at h1
    injection h1 with h1
    subst h1
    refine ⟨⟨g, 0, none⟩, hv, ⟨Nat.le_trans hb hg, cur, _, hh⟩, h2, fun j u hu => ?_⟩
    exact h3 j _ (by rw [List.getElem?_map, hu]; rfl)
theorem Bd.nil_ : Bd w good none 0 0 [] := ⟨rfl, by omega, by simp [maxLen], fun h => absurd h (by omega)⟩

/-- The slice value at A is a row of items of the call's own; their bodies lie in good blocks. -/
def OwnI (w : World) (base : Nat) (good : Nat → Prop) (A : Option Addr) (k c : Nat) (its : List It) : Prop :=
  ∃ vs, w.ownsRow base 55 2 (.slice A k c) k vs ∧ Its w good its vs
theorem OwnI.nil_ (base : Nat) : OwnI w base good none 0 0 [] := ⟨[], World.ownsRow_nil _ _ _ _, trivial⟩
theorem OwnI.length {base : Nat} {A : Option Addr} {k c : Nat} {its : List It} (h : OwnI w base good A k c its) : its.length = k := by
  obtain ⟨vs, h1, h2⟩ := h
  have := h1.1
  have := h2.length
  omega
theorem OwnI.type {base : Nat} {A : Option Addr} {k c : Nat} {its : List It} (h : OwnI w base good A k c its) {g : Nat} (hg : (Value.slice A k c).ownBlock = some g) : base ≤ g ∧ ∃ cur m, w.heap[g]? = some (.cells cur 55 m) := by
  obtain ⟨vs, h1, _⟩ := h
  rcases h1.2 with ⟨h2, _⟩ | ⟨g', cap, cur, hv, hb, hh, _⟩
  · injection h2 with h2 _ _; subst h2; cases hg
  · injection hv with hv _ _; subst hv; injection hg with hg; subst hg; exact ⟨hb, cur, _, hh⟩
/-- What keeps the row's block and the bodies' blocks keeps the row of items. -/
theorem OwnI.keep {base : Nat} {A : Option Addr} {k c : Nat} {its : List It} (h : OwnI w base good A k c its) (hs : w.heap.size ≤ w'.heap.size)
    (hr : ∀ g, (Value.slice A k c).ownBlock = some g → g < w.heap.size → w'.heap[g]? = w.heap[g]?) (hk : ∀ p, good p → p < w.heap.size → w'.heap[p]? = w.heap[p]?) (hg : ∀ p, good p → p < w.heap.size → good' p) : OwnI w' base good' A k c its := by
  obtain ⟨vs, h1, h2⟩ := h
  refine ⟨vs, ⟨h1.1, ?_⟩, ?_⟩
  · rcases h1.2 with h3 | ⟨g, cap, cur, hv, hb, hh, r⟩
    · exact .inl h3
    · refine .inr ⟨g, cap, cur, hv, hb, ?_, r⟩
      rw [hr g (by injection hv with hv; subst hv; rfl)]
      · exact hh
      · rcases Nat.lt_or_ge g w.heap.size with h | h
        · exact h
        · rw [Array.getElem?_eq_none h] at hh; cases hh
  · clear h1 hr
    induction its generalizing vs with
    | nil => cases vs with
      | nil => trivial
      | cons _ _ => exact h2.elim
    | cons x r ih =>
      obtain ⟨cc, b⟩ := x
      match vs, h2 with
      | u :: v :: vs, ⟨h3, ⟨A', k', c', h4, h5⟩, h6⟩ =>
        refine ⟨h3, ⟨A', k', c', h4, h5.1, h5.2.1, h5.2.2.1, fun h0 => ?_⟩, ih vs h6⟩
        obtain ⟨ad, e1, e2, e3, e4⟩ := h5.2.2.2 h0
        refine ⟨ad, e1, hg _ e2 e3, by omega, fun j u hu => ?_⟩
        rw [← e4 j u hu]
        exact World.cell?_of_block (by rw [block_of_add]; exact hk _ e2 e3)
end

theorem item_info : (Try.prog.info? 55).map (fun i => (i.zero, i.size, i.bytes)) = some (some (.agg #[.int .i64 0, .slice none 0 0]), 2, 32) := by kernel_rfl
theorem under47 : Try.prog.underlying 47 = some (.slice 55) := by kernel_rfl

theorem wpList_append_i {w : World} {ops : Array Oper} {rest : List Oper} {o : Oper} {a : Act} {Q : Exit → Act → World → Prop} (hgd : o.guard = none) (s x : Operand)
    (ho : o.op = .call { callee := .builtin .append, args := #[s, x], argTypes := #[47, 47] })
    (base : Nat) (good : Nat → Prop) (A : Option Addr) (k c : Nat) (l : List It) (hs : a.eval s = .slice A k c) (hown : OwnI w base good A k c l)
    (B : Nat) (A2 : Option Addr) (m c2 : Nat) (news : List It) (nvs : List Value) (hx : a.eval x = .slice A2 m c2) (hr : Reads w B 2 A2 m nvs) (hn : Its w good news nvs)
    (hgood : ∀ p, good p → some p ≠ (Value.slice A k c).ownBlock)
    (hbd : k + m ≤ 1000000000) (hbase : base ≤ w.heap.size)
    (h : ∀ (A' : Option Addr) (c' : Nat) (w' : World), OwnI w' base good A' (k + m) c' (l ++ news) → w.grownBy w' (Value.slice A k c).ownBlock →
      ((Value.slice A' (k + m) c').ownBlock = (Value.slice A k c).ownBlock ∨ (Value.slice A' (k + m) c').ownBlock = some w.heap.size) →
      wpList Try.prog ops Q rest (a.put o.dst (.slice A' (k + m) c')) w') : wpList Try.prog ops Q (o :: rest) a w := by
  obtain ⟨i0, hi0, hz0, hz1, hz2⟩ := info_parts item_info
  obtain ⟨vs, hv1, hv2⟩ := hown
  have hone : ∀ u ∈ nvs, u.oneCell' = true := hn.oneCell
  refine wpList_append_any w hgd s x 47 ho base 55 i0 _ 2 32 under47 hi0 hz0 hz1 hz2 rfl (by omega) _ k _ hs hv1 B A2 m c2 _ hx hr hone
    (by simp only [maxLen]; omega) (by omega) hbase ?_
  intro v' w' h1 h2 h3
  have hform : ∃ A' c', v' = .slice A' (k + m) c' := by
    rcases h1.2 with ⟨rfl, h0⟩ | ⟨g, cap, cur, rfl, _⟩
    · exact ⟨none, 0, by rw [h0]⟩
    · exact ⟨_, _, rfl⟩
  obtain ⟨A', c', rfl⟩ := hform
  exact h A' c' w' ⟨_, h1, (hv2.append hn).keep h2.size (fun p hp hlt => h2.block p hlt (hgood p hp)) (fun _ hp => hp)⟩ h2 h3
end Go.Proofs.Ytmjoikjkmdbleaa
