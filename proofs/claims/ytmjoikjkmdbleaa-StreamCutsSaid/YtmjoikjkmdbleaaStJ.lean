/- What comes in as slices of slices of bytes. -/
import Derived.Test.YtmjoikjkmdbleaaStH
import Derived.OpenShut
namespace Go.Proofs.Ytmjoikjkmdbleaa
open Go.RowKit Go.ChangeShapes Go.WideShapes

/-- What is told of a slice of slices of bytes that came in. -/
def IsRows (w : World) (a : Option Addr) (len cap : Nat) : Prop := len ≤ cap ∧ cap ≤ maxLen ∧ ∃ ls vs, Reads w w.heap.size 1 a len vs ∧ Sls w w.heap.size ls vs

theorem rows_of_trod {H : Type} {enc : TypeId × Value → H} {W : World} {base : Nat} {held : Bool} {fuel : Nat} {cs : List Value} {x : DataW H × List MemPlace} {a : Option Addr} {len cap : Nat}
    (hf : DataW.trod enc Try.prog W base (fun _ => true) held fuel 42 cs = some x) (hc : cs = [.slice a len cap]) : IsRows W a len cap := by
  rcases Go.Deep.open_int_rows under42 Try.underlying22 Try.underlying5 (by kernel_rfl) (by kernel_rfl) hf with ⟨hcs, _⟩ | ⟨a', len', cap', A, L, C, Z, hcs, _, hl, hm, _, hr⟩
  · rw [hc] at hcs
    injection hcs with hcs
    injection hcs with h1 h2 h3
    subst h1 h2 h3
    exact ⟨by omega, by simp [maxLen], [], [], Reads.none_, Sls.nil_⟩
  · rw [hc] at hcs
    injection hcs with hcs
    injection hcs with h1 h2 h3
    subst h1 h2 h3
    have each : ∀ r, r < len → ∃ l : List UInt8, Reads W W.heap.size 1 (A r) (L r) (l.map bv) := by
      intro r hlt
      obtain ⟨_, e2, e3, e4, e5, e6, e7⟩ := hr r (by omega)
      have hrow : IsRow .u8 W (A r) (L r) (C r) (Z r) := by
        rcases hA : A r with _ | ad
        · have := e6 hA
          exact .inl ⟨rfl, by omega, this, List.eq_nil_of_length_eq_zero (by omega)⟩
        · exact .inr ⟨ad, rfl, e2, e3, e4, fun i hi => (e7 ad hA).2 i (by omega), e5⟩
      obtain ⟨_, _, l, _, h⟩ := hrow.bytes
      exact ⟨l, h⟩
    obtain ⟨f, hfun⟩ := Go.Deep.choose_lt each
    refine ⟨hl, hm, (List.range len).map f, (List.range len).map fun r => .slice (A r) (L r) (C r), ⟨by simp, fun hn => ⟨a', rfl, ?_, ?_⟩⟩, by simp, ?_⟩
    · have := (hr 0 (by omega)).1
      rw [← block_of_add a' 0]
      exact World.block_lt_of_cell? W _ this
    · intro j u hu
      rw [List.getElem?_map] at hu
      rcases hj : (List.range len)[j]? with _ | r
      · rw [hj] at hu; cases hu
      · rw [hj] at hu
        injection hu with hu
        rw [← hu]
        obtain ⟨h1, h2⟩ := List.getElem?_eq_some_iff.1 hj
        rw [List.getElem_range] at h2
        subst h2
        exact (hr j (by simp at h1; omega)).1
    · intro i l hi
      rw [List.getElem?_map] at hi
      rcases hj : (List.range len)[i]? with _ | r
      · rw [hj] at hi; cases hi
      · rw [hj] at hi
        injection hi with hi
        obtain ⟨h1, h2⟩ := List.getElem?_eq_some_iff.1 hj
        rw [List.getElem_range] at h2
        subst h2
        have hlt : i < len := by simpa using h1
        obtain ⟨_, e2, e3, _⟩ := hr i (by omega)
        exact ⟨A i, L i, C i, by rw [List.getElem?_map, hj]; rfl, e2, e3, by rw [← hi]; exact hfun i hlt⟩
end Go.Proofs.Ytmjoikjkmdbleaa
