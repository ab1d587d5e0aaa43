/- What this text proves: StoreCounts: whatever the input the law returns true and the input reads as it did. No conditions. -/
import Derived.Test.YtpjdfnilhhknkaaStoreCounts
import Derived.Test.YtpjdfnilhhknkaaRowKit
namespace Go.Proofs.Ytpjdfnilhhknkaa.storeCounts
open Go Go.ChangeShapes Go.WideShapes Go.ChangeAt Go.RowKit
open Go.Proofs Go.Proofs.Ytpjdfnilhhknkaa
set_option linter.unusedVariables false

set_option maxRecDepth 100000 in
theorem lifted (os : Os) (started : os.Started) (H : Type) (enc : TypeId × Value → H) :
    ReturnsInHanded {} Try.checked os 3 .any (Rows.storeCountsSpec.pre6 enc Try.prog Try.f3 Rows.storeCountsRow.domain false) (Rows.storeCountsSpec.post enc Try.prog Try.f3 false true false false) := by
  refine returnsInHanded_of_change_sized (C := Try.checked) ownKnobTry started (by kernel_rfl) Try.func3
    (ChangeSpec.witness6 (enc := enc) (C := Try.checked) false ⟨#[], #[.slice none 0 0], []⟩ 8 (by kernel_rfl) (by kernel_rfl) (by kernel_rfl) (by kernel_rfl)) ?_
  intro W base args ds gs before hval0 hW hcnd hsz _
  have hval : ∀ (j : Nat) t v, Try.f3.params[j]? = some t → args[j]? = some v → Value.okWide Try.prog W .any base t v := hval0
  have hW' := hW
  obtain ⟨p, q, hA0, hV, rfl, hfz, hnd⟩ := hW
  have hA : DataW.TrodAll enc Try.prog W 0 (fun _ => true) true Try.f3.params.toList args.toList ds p := hA0
  rw [Try.params3] at hA hval
  have hAk := hA
  obtain ⟨v0, vs0, d0, ds0, p0, q0, hargs, rfl, rfl, h0, r0⟩ := trodAll_cons hA
  obtain ⟨rfl, rfl, rfl⟩ := trodAll_nil r0
  obtain rfl : args = #[v0] := by cases args; simp_all
  obtain ⟨rfl, rfl⟩ := trodVars_none hV
  obtain ⟨l0, hr0, hl0, hw0⟩ := open_acts (okWide_slice Try.underlying22 (hval 0 22 v0 rfl rfl)) h0
  refine (walk l0 v0 W hr0 hl0).mono fun e W' ⟨he, hb⟩ => ?_
  subst he
  exact ⟨_, rfl, _, _, _, [], _, [], hW', trodAll_cons_mk (shut_bool Try.underlying4 _) trodAll_mk0, trodAll_below laidOutTry hb (by decide +kernel) hAk (fun x hx => hW'.lt x (by simp only [List.append_nil] at hx ⊢; exact hx)), rfl, hb.frame _, fun h => by cases h⟩

theorem over : Rows.storeCountsRow.holds Try.pinned (OpenSpec.ofChange Rows.storeCountsSpec) :=
  OpenClaim.holds_of_wide 3 Try.f3 rfl rfl rfl rfl rfl rfl rfl ⟨rfl, rfl, rfl, rfl, rfl⟩ rfl rfl rfl rfl rfl (by kernel_rfl) Try.func3 (by kernel_rfl)
    (of_decide_eq_true (by kernel_rfl)) (by unfold Func.isWrapper; first | (rw [if_pos (by decide +kernel)]; kernel_rfl) | (rw [if_neg (by decide +kernel)]; exact ⟨rfl, rfl⟩))
    (fun os started H enc _ => lifted os started H enc)

/-- StoreCounts. -/
theorem proved : Rows.StoreCountsSaid := over
#print axioms proved
end Go.Proofs.Ytpjdfnilhhknkaa.storeCounts
