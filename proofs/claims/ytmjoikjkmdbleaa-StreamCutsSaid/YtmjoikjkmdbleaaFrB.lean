/- The walks of the frame's small parts: reject, skip, bytes.IndexByte, bytes.Clone. -/
import Derived.Test.YtmjoikjkmdbleaaOwn
import Derived.Test.YtmjoikjkmdbleaaFrA
import Derived.Lib.BytesEntry
import Derived.Laws.Externs
namespace Go.Proofs.Ytmjoikjkmdbleaa
open Go.RowKit Crc Fr

theorem bcell {W w1 : World} (hb : Below W.heap.size W w1) : (∀ b o, b < W.heap.size → w1.cell? ⟨b, o, none⟩ = W.cell? ⟨b, o, none⟩) ∧ (∀ b o, b < W.heap.size → w1.frozen? ⟨b, o, none⟩ = W.frozen? ⟨b, o, none⟩) :=
  ⟨fun b o h => hb.cell (p := ⟨b, o, none⟩) h, fun b o h => hb.frozen (p := ⟨b, o, none⟩) h⟩

set_option maxHeartbeats 400000 in
theorem reject_any (code : Int) (w : World) :
    Calls Try.prog 43 #[.int .i64 code] w fun e w' => e = .returned (.agg #[.int .i64 3, .int .i64 1, .int .i64 code, .slice none 0 0]) ∧ Below w.heap.size w w' := by
  go_enter Try.func43, Try.ntmps43
  go_wp2
  exact bodyPost_ret (v := .agg #[.int .i64 3, .int .i64 1, .int .i64 code, .slice none 0 0]) (by simp [results, Try.results43, go_sem]) rfl ⟨rfl, (Below.refl _ _).alloc (Nat.le_refl _) _⟩

theorem bytesOf_bv (l : List UInt8) : Lib.bytesOf (l.map fun c => (c.toNat : Int)) = l := by
  unfold Lib.bytesOf
  rw [List.map_map]
  conv => rhs; rw [← List.map_id l]
  apply List.map_congr_left
  intro c _
  simp
theorem indexByte_ahead (l : List UInt8) : Lib.indexByte l 165 = if Fr.ahead l = l.length then -1 else (Fr.ahead l : Int) := by
  induction l with
  | nil => simp [Lib.indexByte, Fr.ahead]
  | cons c r ih =>
    have hle := ahead_le r
    unfold Lib.indexByte
    rw [ih]
    by_cases hc : c = 165
    · subst hc; simp [Fr.ahead]
    · have e1 : Fr.ahead (c :: r) = Fr.ahead r + 1 := by simp [Fr.ahead, hc]
      rw [e1]
      by_cases h : Fr.ahead r = r.length
      · simp [h, hc]
      · simp [h, hc]

theorem run_index_any (P : Program) (w : World) (B : Nat) (A : Option Addr) (n c : Nat) (l : List UInt8) (hr : Reads w B 1 A n (l.map bv)) (cv : Int) :
    (Extern.BytealgIndexByte.indexByte #[.slice A n c, .int .u8 cv]).run P w = .ok (.int .i64 (Lib.indexByte l cv.toNat.toUInt8)) w := by
  have hl : l.length = n := by simpa using hr.1
  rcases A with _ | a
  · have h0 : n = 0 := by
      rcases Nat.eq_zero_or_pos n with h | h
      · exact h
      · obtain ⟨_, h1, _⟩ := hr.2 h; cases h1
    subst h0
    obtain rfl : l = [] := List.eq_nil_of_length_eq_zero hl
    exact Lib.run_indexByteNil w 0 c cv
  · have hcells : ∀ j x, (l.map fun c => (c.toNat : Int))[j]? = some x → w.cell? (a.add j) = some (.int .u8 x) := by
      intro j x hj
      rw [List.getElem?_map, Option.map_eq_some_iff] at hj
      obtain ⟨u, hu, rfl⟩ := hj
      have hjl := (List.getElem?_eq_some_iff.1 hu).1
      obtain ⟨ad, u', e, _, h2, h3⟩ := hr.at_ (k := j) (by omega)
      injection e with e
      subst e
      rw [h3]
      rw [List.getElem?_map, hu] at h2
      exact h2.symm
    have hl1 := Lib.run_loadBytesX (P := P) w (l.map fun c => (c.toNat : Int)) a .empty hcells
    rw [List.length_map, hl, bytesOf_bv] at hl1
    have hs := Lib.run_indexByteString (P := P) ⟨l.toArray⟩ cv w
    have he : (⟨ByteArray.empty.data ++ l.toArray⟩ : ByteArray) = ⟨l.toArray⟩ := by
      apply ByteArray.ext
      show (#[] : Array UInt8) ++ l.toArray = l.toArray
      simp
    rw [he] at hl1
    change Sem.run P (do
      let b ← Extern.Bytes.bytesOf (.slice (some a) n c)
      let c ← Extern.Bytes.asByte (.int .u8 cv)
      match (List.range b.size).find? fun i => b[i]! == c with
      | some i => pure (goInt i)
      | none => pure (goInt (-1))) w = _
    change Sem.run P (do
      let b ← Extern.Bytes.bytesOf (.string ⟨l.toArray⟩)
      let c ← Extern.Bytes.asByte (.int .u8 cv)
      match (List.range b.size).find? fun i => b[i]! == c with
      | some i => pure (goInt i)
      | none => pure (goInt (-1))) w = _ at hs
    simp only [Extern.Bytes.bytesOf, Sem.run_bind, Sem.run_pure, hl1, Result.andThen] at hs ⊢
    exact hs

set_option maxHeartbeats 400000 in
theorem index_any (B : Nat) (A : Option Addr) (n c : Nat) (l : List UInt8) (w : World) (hr : Reads w B 1 A n (l.map bv)) :
    Calls Try.prog 47 #[.slice A n c, .int .u8 165] w fun e w' => e = .returned (.int .i64 (if Fr.ahead l = l.length then -1 else (Fr.ahead l : Int))) ∧ w = w' := by
  have hx := run_index_any Try.prog w B A n c l hr 165
  rw [show ((165 : Int).toNat.toUInt8) = 165 by decide, indexByte_ahead] at hx
  have HX := Lib.hid hx
  clear hx hr
  generalize (if Fr.ahead l = l.length then (-1 : Int) else (Fr.ahead l : Int)) = v at *
  go_enter Try.func47, Try.ntmps47
  go_wp2
  rw [run_callFunc_extern Try.func48 (by kernel_rfl) (by kernel_rfl) (by kernel_rfl) (e := Extern.BytealgIndexByte.indexByte) (by kernel_rfl), HX.out]
  simp only [Result.andThen]
  rw [Oper.upon_value]
  go_wp2
  go_ret
  exact ⟨rfl, rfl⟩

set_option maxHeartbeats 400000 in
theorem skip_any (B : Nat) (A : Option Addr) (n c : Nat) (l : List UInt8) (w : World) (hr : Reads w B 1 A n (l.map bv)) (hB : B ≤ w.heap.size) (_hn : n ≤ maxLen) :
    Calls Try.prog 44 #[.slice A n c] w fun e w' => e = .returned (.agg #[.int .i64 1, .int .i64 (Fr.ahead l : Int), .int .i64 0, .slice none 0 0]) ∧ Below w.heap.size w w' := by
  have hl : l.length = n := by simpa using hr.1
  have hle := ahead_le l
  have HR := Lib.hid (fun o => hr.alloc hB o)
  clear hr
  by_cases h : Fr.ahead l = l.length
  · have HI := Lib.hid (fun w B A n c hr => index_any B A n c l w hr)
    simp only [if_pos h] at HI
    have HL := Lib.hid (h.trans hl)
    clear h hl
    rw [HL.out]
    go_enter Try.func44, Try.ntmps44
    go_wp2_with (go_at_call 47; (with_reducible refine (HI.out _ _ _ _ _ (HR.out _)).mono ?_); rintro e w' ⟨rfl, rfl⟩)
    exact bodyPost_ret (v := .agg #[.int .i64 1, .int .i64 (n : Int), .int .i64 0, .slice none 0 0]) (by simp [results, Try.results44, go_sem]) rfl ⟨rfl, (Below.refl _ _).alloc (Nat.le_refl _) _⟩
  · have HI := Lib.hid (fun w B A n c hr => index_any B A n c l w hr)
    simp only [if_neg h] at HI
    have h1 : Fr.ahead l < n := by omega
    clear h hl hle
    generalize Fr.ahead l = m at *
    go_enter Try.func44, Try.ntmps44
    go_wp2_with (go_at_call 47; (with_reducible refine (HI.out _ _ _ _ _ (HR.out _)).mono ?_); rintro e w' ⟨rfl, rfl⟩)
    exact bodyPost_ret (v := .agg #[.int .i64 1, .int .i64 (m : Int), .int .i64 0, .slice none 0 0]) (by simp [results, Try.results44, go_sem]) rfl ⟨rfl, (Below.refl _ _).alloc (Nat.le_refl _) _⟩

/-- bytes.Clone: bytes of the call's own, or nil. -/
theorem clone_any (B : Nat) (A : Option Addr) (n c : Nat) (l : List UInt8) (w : World) (hr : Reads w B 1 A n (l.map bv)) (hB : B ≤ w.heap.size) (_hn : n ≤ 100000000) :
    Calls Try.prog 46 #[.slice A n c] w fun e w' => ∃ A' k' c', e = .returned (.slice A' k' c') ∧ OwnB w' w.heap.size A' k' c' l ∧ Below w.heap.size w w' := by
  have q22 : ∀ (w : World) (a : Option Addr) (n c n' c' : Nat), (binOp .eql 22 (.slice a n c) (.slice none n' c')).run Try.prog w = .ok (.bool a.isNone) w := fun w a n c n' c' => Lib.run_eql_slice_nil w _ _ a n c n' c' Try.underlying22
  rcases A with _ | a
  · have h0 : n = 0 := by
      rcases Nat.eq_zero_or_pos n with h | h
      · exact h
      · obtain ⟨_, h1, _⟩ := hr.2 h; cases h1
    subst h0
    have hl : l.length = 0 := by simpa using hr.1
    obtain rfl : l = [] := List.eq_nil_of_length_eq_zero hl
    go_enter Try.func46, Try.ntmps46
    go_wp2
    go_ret
    exact ⟨none, 0, 0, rfl, OwnB.nil _ _, Below.refl _ _⟩
  · go_enter Try.func46, Try.ntmps46
    go_wp2_with (at_builtin
                 refine wpList_append_b rfl (.tmp 5) (.tmp 6) rfl w.heap.size (some ⟨w.heap.size, 0, none⟩) 0 0 [] rfl (OwnB.made0 w (Nat.le_refl _)) B (some a) n c l rfl (hr.alloc hB _) (by omega) (by simp) ?_
                 intro A1 k1 c1 w1 hk1 hk1' hown1 hg1 hat1
                 have hb1 : Below w.heap.size w w1 := ((Below.refl _ _).alloc (Nat.le_refl _) _).grown hg1 (by simp) (by simp [Value.ownBlock]))
    go_ret
    exact ⟨A1, k1, c1, rfl, by simpa using hown1, hb1⟩
end Go.Proofs.Ytmjoikjkmdbleaa
