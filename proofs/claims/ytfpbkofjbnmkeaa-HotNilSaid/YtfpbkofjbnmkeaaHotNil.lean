/- What this text proves: the walk of HotNil. No conditions. -/
import Derived.Test.YtfpbkofjbnmkeaaHotShown
import Derived.Test.YtfpbkofjbnmkeaaRowKit
namespace Go.Proofs.Ytfpbkofjbnmkeaa.hotNil
open Go Go.ChangeShapes Go.WideShapes Go.ChangeAt Go.RowKit
open Go.Proofs Go.Proofs.Ytfpbkofjbnmkeaa
set_option linter.unusedVariables false

theorem walk (a : Int) (bs : List Int) (v : Value) (w : World) (hv : Reads w 1 v bs.length (By bs)) : Calls Try.prog 6 #[.int .u32 a, v] w fun e w' => e = .returned (.bool true) ∧ Below w.heap.size w w' := by
  obtain ⟨va, vc, hva⟩ := hv.len
  subst hva
  clear hv
  go_enter Try.func6, Try.ntmps6
  go_wp2_with fail
  refine (shown_calls w).mono ?_
  rintro e w1 ⟨rfl, hu1⟩
  have HU1 := Lib.hid hu1; clear hu1
  go_wp2_with fail
  refine (get_nil w1 a).mono ?_
  rintro e w1 ⟨rfl, rfl⟩
  go_wp2_with (first
    | (go_at_call 11; refine (offer_nil _ _ _).mono ?_; rintro e w2 ⟨rfl, rfl⟩)
    | (go_at_call 13; refine (drop_nil _ _).mono ?_; rintro e w2 ⟨rfl, rfl⟩)
    | (go_at_call 19; refine (hall_nil _).mono ?_; rintro e w2 ⟨rfl, rfl⟩))
  go_ret
  exact ⟨rfl, HU1.out.below (Nat.le_refl _) (fun _ f => f.elim)⟩
theorem cellsU8 : Try.prog.cellsOf 5 = 1 := by kernel_rfl
theorem flatU8 : flatK Try.prog 5 5 = some [.int .u8] := by rfl
/-- Bytes that came in. -/
theorem open_bytes {H : Type} {enc : TypeId × Value → H} {w : World} {spare : Nat → Bool} {held : Bool} {base0 : Nat} {v : Value} {d : DataW H} {p : List MemPlace} (hok : ∃ a n c, v = .slice a n c) (h : DataW.Trod enc Try.prog w base0 spare held 30 v d p) :
    ∃ xs : List Int, Reads w 1 v xs.length (By xs) ∧ xs.length ≤ maxLen ∧ ∀ x ∈ xs, (Lit.int .u8 x).wf = true := by
  obtain ⟨n, xs, h1, h2, h3, _⟩ := open_flat Try.underlying30 cellsU8 flatU8 hok h
  obtain ⟨l, g1, g2, g3⟩ := list_of_pieces (fun x => [Value.int .u8 x]) (fun x => (Lit.int .u8 x).wf = true) 1 (fun _ => rfl) n xs h1.1 (fun i hi => by
    have hf := h3 i hi
    generalize (xs.drop (i * 1)).take 1 = cs at hf ⊢
    match cs, hf with
    | [_], ⟨⟨a, rfl, hw⟩, _⟩ => exact ⟨a, rfl, hw⟩)
  have e := flatMap_one (Value.int .u8) l
  subst g1 g2
  rw [e] at h1
  exact ⟨l, h1, h2, g3⟩
end Go.Proofs.Ytfpbkofjbnmkeaa.hotNil
