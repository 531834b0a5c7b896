/- For every input the law CrcApart returns true and leaves its arguments as they were: no condition. -/
import Derived.Test.YtmjoikjkmdbleaaRows
import Derived.Test.YtmjoikjkmdbleaaCrcC
import Derived.WalkKit
import Derived.ProofKit
import Derived.OpenShut
import Derived.ShutString
import Derived.ChangeOld
import Derived.Below
namespace Go.Proofs.Ytmjoikjkmdbleaa.crcApart
open Go.ChangeShapes Go.WideShapes Go.ChangeAt Go.RowKit
open Go.ChangeMaps (open_string shut_string)
set_option linter.unusedVariables false

theorem own : ownKnob Try.prog.godebug = none := by kernel_rfl
theorem laidOut : laidOutB Try.prog = true := by kernel_rfl

/-! The walk. -/
theorem walk (a0 : Int) (a1 : Int) (x y : UInt8) (w : World) (w0 : (Lit.int .u16 a0).wf = true) (w1 : (Lit.int .u16 a1).wf = true) :
    Calls Try.prog 7 #[.int .u16 a0, .int .u16 a1, .agg #[.int .u8 x.toNat, .int .u8 y.toNat]] w fun e w' => e = .returned (.bool true) ∧ Below w.heap.size w w' := by
  obtain ⟨a, rfl⟩ := u16_of_wf w0
  obtain ⟨b, rfl⟩ := u16_of_wf w1
  exact apart_walk a b x y w

theorem open_two {H : Type} {enc : TypeId × Value → H} {W : World} {r : Reach} {b0 base : Nat} {spare : Nat → Bool} {held : Bool} {v : Value} {d : DataW H} {p : List MemPlace}
    (hv : Value.okWide Try.prog W r b0 32 v) (h : DataW.Trod enc Try.prog W base spare held 32 v d p) : ∃ x y : UInt8, v = .agg #[.int .u8 x.toNat, .int .u8 y.toNat] := by
  unfold Value.okWide at hv
  rw [Try.underlying32] at hv
  obtain ⟨cs2, rfl, hsz2, _⟩ := hv
  obtain ⟨fuel, hf⟩ := h
  obtain ⟨xs, m, rfl, _, _, hn, hx⟩ := DataW.trod_array Try.underlying32 hf
  have c5 : Try.prog.cellsOf 5 = 1 := by kernel_rfl
  have c32 : Try.prog.cellsOf 32 = 2 := by kernel_rfl
  rw [c32] at hsz2
  obtain ⟨l⟩ := cs2
  match l, hsz2 with
  | [a, b], _ =>
    match xs, hn with
    | [y0, y1], _ =>
      have g0 := hx 0 (by omega)
      have g1 := hx 1 (by omega)
      rw [c5] at g0 g1
      simp only [Value.cells, List.getElem?_cons_zero, List.getElem?_cons_succ, Nat.zero_mul, Nat.one_mul, List.drop_zero, List.drop_succ_cons, List.take_succ_cons, List.take_zero] at g0 g1
      obtain ⟨n0, e0, _, wf0⟩ := DataW.trod_int Try.underlying5 g0
      obtain ⟨n1, e1, _, wf1⟩ := DataW.trod_int Try.underlying5 g1
      simp only [List.cons.injEq, and_true] at e0 e1
      obtain ⟨c0, rfl⟩ := u8_of_wf wf0
      obtain ⟨c1, rfl⟩ := u8_of_wf wf1
      exact ⟨c0, c1, by rw [e0, e1]⟩

/-! The row. -/
set_option maxRecDepth 100000 in
theorem lifted (os : Os) (started : os.Started) (H : Type) (enc : TypeId × Value → H) :
    ReturnsInHanded {} Try.checked os 7 .any (Rows.crcApartSpec.pre6 enc Try.prog Try.f7 Rows.crcApartRow.domain false) (Rows.crcApartSpec.post enc Try.prog Try.f7 false true false false) := by
  refine returnsInHanded_of_change (C := Try.checked) own started (by kernel_rfl) Try.func7
    (ChangeSpec.witness6 (enc := enc) (C := Try.checked) false ⟨#[], #[.int .u16 0, .int .u16 0, .agg #[.int .u8 0, .int .u8 0]], []⟩ 8 (by kernel_rfl) (by kernel_rfl) (by kernel_rfl) (by kernel_rfl)) ?_
  intro W base args ds gs before hval0 hW hcnd _
  have hval : ∀ (j : Nat) t v, Try.f7.params[j]? = some t → args[j]? = some v → Value.okWide Try.prog W .any base t v := hval0
  have hW' := hW
  obtain ⟨p, q, hA0, hV, rfl, hfz, hnd⟩ := hW
  have hA : DataW.TrodAll enc Try.prog W 0 (fun _ => true) true Try.f7.params.toList args.toList ds p := hA0
  rw [Try.params7] at hA hval
  obtain ⟨v0, vs0, d0, ds0, p0, q0, hargs, rfl, rfl, h0, r0⟩ := trodAll_cons hA
  obtain ⟨v1, vs1, d1, ds1, p1, q1, rfl, rfl, rfl, h1, r1⟩ := trodAll_cons r0
  obtain ⟨v2, vs2, d2, ds2, p2, q2, rfl, rfl, rfl, h2, r2⟩ := trodAll_cons r1
  obtain ⟨rfl, rfl, rfl⟩ := trodAll_nil r2
  obtain rfl : args = #[v0, v1, v2] := by cases args; simp_all
  obtain ⟨rfl, rfl⟩ := trodVars_none hV
  obtain ⟨a0, rfl, rfl, rfl, w0⟩ := open_int Try.underlying23 (hval 0 23 v0 rfl rfl) h0
  obtain ⟨a1, rfl, rfl, rfl, w1⟩ := open_int Try.underlying23 (hval 1 23 v1 rfl rfl) h1
  have k2 := h2
  have lt2 : ∀ x ∈ p2, x.block < W.heap.size := by obtain ⟨m, hm⟩ := k2; exact DataW.trod_lt m _ _ _ hm
  obtain ⟨x, y, rfl⟩ := open_two (hval 2 32 v2 rfl rfl) h2
  clear hA0 hval0
  refine (walk a0 a1 x y W w0 w1).mono fun e W' ⟨he, bel⟩ => ?_
  subst he
  exact ⟨_, rfl, _, _, _, [], _, [], hW', trodAll_mk1 (shut_bool Try.underlying4 _), (trodAll_cons_mk (shut_int Try.underlying23 w0) (trodAll_cons_mk (shut_int Try.underlying23 w1) (trodAll_cons_mk (Below.trod laidOut (by kernel_rfl) (of_decide_eq_true (by kernel_rfl)) k2 bel lt2) trodAll_mk0))), rfl, bel.frame _, fun h => by cases h⟩

theorem over : Rows.crcApartRow.holds Try.pinned (OpenSpec.ofChange Rows.crcApartSpec) :=
  OpenClaim.holds_of_wide 7 Try.f7 rfl rfl rfl rfl rfl rfl rfl ⟨rfl, rfl, rfl, rfl, rfl⟩ rfl rfl rfl rfl rfl (by kernel_rfl) Try.func7 (by kernel_rfl)
    (of_decide_eq_true (by kernel_rfl)) (by unfold Func.isWrapper; first | (rw [if_pos (by decide +kernel)]; kernel_rfl) | (rw [if_neg (by decide +kernel)]; exact ⟨rfl, rfl⟩))
    (fun os started H enc _ => lifted os started H enc)

/-- The statement. -/
theorem proved : Rows.CrcApartSaid := over
#print axioms proved
end Go.Proofs.Ytmjoikjkmdbleaa.crcApart
