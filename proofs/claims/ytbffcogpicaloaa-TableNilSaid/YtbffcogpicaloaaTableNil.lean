/- What this text proves: TableNil: whatever the input the law returns true and the input reads as it did. No conditions. -/
import Derived.Test.YtbffcogpicaloaaTableLaws
namespace Go.Proofs.Ytbffcogpicaloaa.tableNil
open Go Go.ChangeShapes Go.WideShapes Go.ChangeAt Go.RowKit
open Go.Proofs Go.Proofs.Ytbffcogpicaloaa
set_option linter.unusedVariables false

theorem current_nil (w : World) : Calls Try.prog 20 #[.pointer none] w fun e w' => e = .returned (.tuple #[.int .i64 0, .bool false]) ∧ w = w' := by
  go_enter Try.func20, Try.ntmps20
  go_wp2_with fail
  go_ret2
  exact ⟨rfl, rfl⟩
theorem free_nil (w : World) : Calls Try.prog 21 #[.pointer none] w fun e w' => e = .returned (.int .i64 0) ∧ w = w' := by
  go_enter Try.func21, Try.ntmps21
  go_wp2_with fail
  go_ret
  exact ⟨rfl, rfl⟩
theorem sealed_nil (w : World) : Calls Try.prog 22 #[.pointer none] w fun e w' => e = .returned (.slice none 0 0) ∧ w = w' := by
  go_enter Try.func22, Try.ntmps22
  go_wp2_with fail
  go_ret
  exact ⟨rfl, rfl⟩
theorem rows_nil (w : World) : Calls Try.prog 14 #[.pointer none] w fun e w' => e = .returned (.slice none 0 0) ∧ w = w' := by
  go_enter Try.func14, Try.ntmps14
  go_wp2_with fail
  go_ret
  exact ⟨rfl, rfl⟩
theorem next_nil (w : World) : Calls Try.prog 17 #[.pointer none] w fun e w' => e = .returned (.int .u64 0) ∧ w = w' := by
  go_enter Try.func17, Try.ntmps17
  go_wp2_with fail
  go_ret
  exact ⟨rfl, rfl⟩
theorem open_nil (w : World) : Calls Try.prog 11 #[.pointer none] w fun e w' => e = .returned (.tuple #[.int .i64 0, .int .u64 0, .int .i64 2]) ∧ w = w' := by
  go_enter Try.func11, Try.ntmps11
  go_wp2_with fail
  go_ret3
  exact ⟨rfl, rfl⟩
theorem seal_nil (w : World) : Calls Try.prog 12 #[.pointer none] w fun e w' => e = .returned (.int .i64 2) ∧ w = w' := by
  go_enter Try.func12, Try.ntmps12
  go_wp2_with fail
  go_ret
  exact ⟨rfl, rfl⟩
theorem release_nil (w : World) (s : Int) : Calls Try.prog 13 #[.pointer none, .int .i64 s] w fun e w' => e = .returned (.int .i64 2) ∧ w = w' := by
  go_enter Try.func13, Try.ntmps13
  go_wp2_with fail
  go_ret
  exact ⟨rfl, rfl⟩
set_option maxHeartbeats 1000000 in
theorem does_nil (w : World) (k s : Int) (hk : (Lit.int .u8 k).wf = true) : Calls Try.prog 16 #[.pointer none, .agg #[.int .u8 k, .int .i64 s]] w fun e w' => e = .returned (.tuple #[.int .i64 0, .int .u64 0, .int .i64 2]) ∧ Below w.heap.size w w' := by
  have hk0 := wf_u8 hk
  have hb := (Below.refl w.heap.size w).alloc (Nat.le_refl _) (.cells #[.int .u8 k, .int .i64 s] 41)
  by_cases h0 : k % 3 = 0
  · go_enter Try.func16, Try.ntmps16
    go_wp2_with fail
    refine (open_nil _).mono ?_
    rintro e w' ⟨rfl, rfl⟩
    go_wp2_with fail
    go_ret3
    exact ⟨rfl, hb⟩
  · by_cases h1 : k % 3 = 1
    · go_enter Try.func16, Try.ntmps16
      go_wp2_with fail
      refine (seal_nil _).mono ?_
      rintro e w' ⟨rfl, rfl⟩
      go_wp2_with fail
      go_ret3
      exact ⟨rfl, hb⟩
    · go_enter Try.func16, Try.ntmps16
      go_wp2_with fail
      refine (release_nil _ _).mono ?_
      rintro e w' ⟨rfl, rfl⟩
      go_wp2_with fail
      go_ret3
      exact ⟨rfl, hb⟩

set_option maxHeartbeats 1000000 in
theorem walk (k s : Int) (w : World) (hk : (Lit.int .u8 k).wf = true) :
    Calls Try.prog 8 #[.agg #[.int .u8 k, .int .i64 s]] w fun e w' => e = .returned (.bool true) ∧ Below w.heap.size w w' := by
  obtain ⟨B, hB⟩ : ∃ B, B = w.heap.size := ⟨_, rfl⟩
  rw [← hB]
  have hb := (Below.refl w.heap.size w).alloc (Nat.le_refl _) (.cells #[.int .u8 k, .int .i64 s] 41)
  rw [← hB] at hb
  have HB := Lib.hid hB; clear hB
  have HK := Lib.hid hk; clear hk
  go_enter Try.func8, Try.ntmps8
  go_wp2_with fail
  refine calls_world fun W hW => ?_
  have m0 : W.cell? ⟨w.heap.size, 0, none⟩ = some (.int .u8 k) := by rw [hW]; simp
  have m1 : W.cell? ⟨w.heap.size, 1, none⟩ = some (.int .i64 s) := by rw [hW]; simp
  have hl : w.heap.size < W.heap.size := by rw [hW]; simp
  rw [← hW] at hb
  have HBW := Lib.hid hb; have HL := Lib.hid hl
  clear hW hb hl
  generalize w.heap.size = cc at m0 m1 HL HB ⊢
  refine (shown11_calls W).mono ?_
  rintro e w1 ⟨rfl, hb1⟩
  have n0 := (hb1.cell (p := ⟨cc, 0, none⟩) HL.out).trans m0
  have n1 := (hb1.cell (p := ⟨cc, 1, none⟩) HL.out).trans m1
  have HB1 : Hid (Below B w w1 ∧ B ≤ w1.heap.size) := Lib.hid ⟨HBW.out.trans (hb1.mono (by have := HL.out; have := HB.out; omega)), by have := hb1.size; have := HL.out; have := HB.out; omega⟩
  clear hb1
  go_wp2_with fail
  refine (does_nil w1 k s HK.out).mono ?_
  rintro e w2 ⟨rfl, hb2⟩
  have HB2 := Lib.hid (HB1.out.1.trans (hb2.mono HB1.out.2)); clear hb2
  go_wp2_with fail
  refine (current_nil _).mono ?_
  rintro e w2 ⟨rfl, rfl⟩
  go_wp2_with (first
    | (go_at_call 21; refine (free_nil _).mono ?_; rintro e w2 ⟨rfl, rfl⟩)
    | (go_at_call 22; refine (sealed_nil _).mono ?_; rintro e w2 ⟨rfl, rfl⟩)
    | (go_at_call 14; refine (rows_nil _).mono ?_; rintro e w2 ⟨rfl, rfl⟩)
    | (go_at_call 17; refine (next_nil _).mono ?_; rintro e w2 ⟨rfl, rfl⟩))
  go_ret
  exact ⟨rfl, HB2.out⟩
theorem open_act {H : Type} {enc : TypeId × Value → H} {w : World} {spare : Nat → Bool} {held : Bool} {base0 base : Nat} {r : Reach} {v : Value} {d : DataW H} {p : List MemPlace} (hok : Value.okWide Try.prog w r base 41 v) (h : DataW.Trod enc Try.prog w base0 spare held 41 v d p) :
    ∃ a : Int × Int, v = .agg (actCells a).toArray ∧ (Lit.int .u8 a.1).wf = true := by
  obtain ⟨cs, rfl, hf⟩ := open_agg (.inl ⟨_, Try.underlying41⟩) flatAct hok h
  have h2 := hf.length
  obtain ⟨x, y, rfl⟩ : ∃ x y, cs = [x, y] := by
    rcases cs with _ | ⟨x, _ | ⟨y, _ | ⟨z, r⟩⟩⟩ <;> simp at h2
    exact ⟨x, y, rfl⟩
  obtain ⟨⟨b, e1, hw1⟩, ⟨a, e2, hw2⟩, _⟩ := hf
  exact ⟨(b, a), by rw [e1, e2]; rfl, hw1⟩
theorem walk' (a : Int × Int) (w : World) (hk : (Lit.int .u8 a.1).wf = true) : Calls Try.prog 8 #[.agg (actCells a).toArray] w fun e w' => e = .returned (.bool true) ∧ Below w.heap.size w w' := walk a.1 a.2 w hk
end Go.Proofs.Ytbffcogpicaloaa.tableNil
