/- What this text proves: contracts of package hot's Drop, Get, All, New. Conditions: each theorem's own. -/
import Derived.Test.YtfpbkofjbnmkeaaHot
import Derived.RegionTactic
import Derived.ChangeAlike
import Derived.StillTailTactics
import Derived.Outline
import Derived.Lib.Hide
import Derived.Deep.LoopGhost
namespace Go.Proofs.Ytfpbkofjbnmkeaa
open Go Go.RowKit Go.Shelf Go.Lib
open Go.Proofs
set_option linter.unusedVariables false
set_option linter.unusedSimpArgs false

/-- the cache at b is h' now, in its own memory and in new one. -/
def Turned (w w' : World) (b : Nat) (h' : Hot) (F : Nat → Prop) : Prop := (∃ F', (∀ q, F' q → F q ∨ fresh w w' q) ∧ HotAt w' b h' F') ∧ Upd F w w'
theorem Turned.trans {w w1 w2 : World} {b : Nat} {h1 h2 : Hot} {F : Nat → Prop} (T : Turned w w1 b h1 F) (hlt : ∀ q, F q → q < w.heap.size) (h : ∀ F1, (∀ q, F1 q → F q ∨ fresh w w1 q) → HotAt w1 b h1 F1 → Turned w1 w2 b h2 F1) : Turned w w2 b h2 F := by
  obtain ⟨⟨F1, hF1, H1⟩, hu1⟩ := T
  obtain ⟨⟨F2, hF2, H2⟩, hu2⟩ := h F1 hF1 H1
  have hs1 := hu1.size
  have hs2 := hu2.size
  refine ⟨⟨F2, fun q hq => ?_, H2⟩, hu1.trans hu2 (fun i hi hk => (hF1 i hk).elim id (fun f => by have := f.1; omega))⟩
  rcases hF2 q hq with f | f
  · rcases hF1 q f with f | f
    · exact .inl f
    · exact .inr ⟨f.1, by have := f.2; omega⟩
  · exact .inr ⟨by have := f.1; omega, f.2⟩
theorem HotAt.lt {w : World} {b : Nat} {h : Hot} {F : Nat → Prop} (H : HotAt w b h F) : ∀ q, F q → q < w.heap.size := by
  obtain ⟨mb, g, v, vs, Fg, H⟩ := H
  exact H.lt
theorem first_at {w : World} {b : Nat} {h : Hot} {F : Nat → Prop} (H : HotAt w b h F) (a : Int) (hn : h.xs.length ≤ 8000) :
    Calls Try.prog 23 #[pt b, .int .u32 a] w fun e w' => e = .returned (.tuple #[]) ∧ Turned w w' b { h with xs := frontL h.xs a } F := by
  obtain ⟨mb, g, v, vs, Fg, H⟩ := H
  refine (first_calls H a hn).mono ?_
  rintro e w' ⟨rfl, ⟨v', H'⟩, hu⟩
  exact ⟨rfl, ⟨_, fun q hq => hq, ⟨mb, g, v', vs, Fg, H'⟩⟩, hu⟩
theorem keyLit {a : Int} (hw : (Lit.int .u32 a).wf = true) : keyOf Try.prog 23 (.int .u32 a) = some (.int .u32 a) := Maps.keyOf_int_mk Try.underlying23 hw
set_option maxHeartbeats 1000000 in
theorem drop_none {w : World} {b : Nat} {h : Hot} {F : Nat → Prop} {mb g : Nat} {v : Value} {vs : Vs} {Fg : Nat → Prop} (H : Lies w b h F mb g v vs Fg) (a : Int) (ha : a ∉ h.xs) (hn : h.xs.length ≤ 8000) :
    Calls Try.prog 13 #[pt b, .int .u32 a] w fun e w' => e = .returned (.bool false) ∧ w = w' := by
  have HH := Lib.hid H
  have c2 : w.cell? ⟨b, 2, none⟩ = some v := cell_at H.here 2
  have hfb := fun i => free_at H.here i
  clear H
  go_enter Try.func13, Try.ntmps13
  go_wp2_with fail
  refine (index_calls HH.out.order a (by unfold maxLen; omega)).mono ?_
  rintro e w1 ⟨rfl, rfl⟩
  rw [idxI_none ha]
  go_wp2_with fail
  go_ret
  exact ⟨rfl, rfl⟩
set_option maxHeartbeats 1000000 in
theorem drop_some {w : World} {b : Nat} {h : Hot} {F : Nat → Prop} {mb g : Nat} {v : Value} {vs : Vs} {Fg : Nat → Prop} (H : Lies w b h F mb g v vs Fg) (a : Int) (hw : (Lit.int .u32 a).wf = true) (ha : a ∈ h.xs) (hn : h.xs.length ≤ 8000) :
    Calls Try.prog 13 #[pt b, .int .u32 a] w fun e w' => e = .returned (.bool true) ∧ Turned w w' b { h with xs := h.xs.erase a, m := setM h.m a none } F := by
  have HH := Lib.hid H
  have c2 : w.cell? ⟨b, 2, none⟩ = some v := cell_at H.here 2
  have c1 : w.cell? ⟨b, 1, none⟩ = some (.map (some mb)) := cell_at H.here 1
  have hfb := fun i => free_at H.here i
  clear H
  obtain ⟨i, hi1, hi2, hi3, hi4⟩ := idxI_some ha
  obtain ⟨gg, c, rfl, hnc, _, hgl⟩ := owns_pos HH.out.order (by omega)
  have HI := Lib.hid (And.intro hi1 (And.intro hi3 hi4)); clear hi1 hi3 hi4
  have hneg : decide ((i : Int) < 0) = false := decide_eq_false (by omega)
  go_enter Try.func13, Try.ntmps13
  go_wp2_with fail
  refine (index_calls HH.out.order a (by unfold maxLen; omega)).mono ?_
  rintro e w1 ⟨rfl, rfl⟩
  rw [HI.out.1]
  go_wp2_with (first
    | ((with_reducible change wpList _ _ _ (⟨_, Op.call { callee := Callee.builtin Builtin.delete, args := _, argTypes := _ }, _, _, _, _⟩ :: _) _ _); refine wpl_delete rfl _ _ 53 23 rfl _ kU32 Try.underlying53 mb _ HH.out.map rfl (.int .u32 a) _ (keyLit hw) rfl ?_
       intro w2 hm2 hu2
       have hL2 := HH.out.del a hm2 hu2
       have c22 : w2.cell? ⟨b, 2, none⟩ = some (.slice (some ⟨gg, 0, none⟩) h.xs.length c) := cell_at hL2.here 2
       have HL2 := Lib.hid hL2; have HU2 := Lib.hid hu2
       clear hm2 hu2 hL2))
  refine (delete_calls HL2.out.order (i := i) hi2).mono ?_
  rintro e w3 ⟨rfl, ho3, hu3⟩
  simp only [] at ho3
  rw [HI.out.2.2] at ho3
  have hgb : gg ≠ b := fun e => (HH.out.fv gg rfl).2.1 e
  have hb3 : w3.heap[b]? = some (.cells #[.int .i64 h.room, .map (some mb), .slice (some ⟨gg, 0, none⟩) h.xs.length c, pt g] 55 (0, 0)) := hu3.at HL2.out.here (fun e => hgb e.symm)
  have d2 : w3.cell? ⟨b, 2, none⟩ = some (.slice (some ⟨gg, 0, none⟩) h.xs.length c) := cell_at hb3 2
  have e2 : w3.frozen? ⟨b, 2, none⟩ = false := free_at hb3 2
  have HB3 := Lib.hid (And.intro hb3 (And.intro ho3 hu3))
  clear hb3 ho3 hu3
  go_wp2_with fail
  go_ret
  have hu24 : Upd (fun k => k = b ∨ (Value.slice (some ⟨gg, 0, none⟩) h.xs.length c).ownBlock = some k) w2 (w3.setCell ⟨b, 2, none⟩ (.slice (some ⟨gg, 0, none⟩) (h.xs.length - 1) c)) :=
    (HB3.out.2.2.mono (S' := fun k => k = b ∨ (Value.slice (some ⟨gg, 0, none⟩) h.xs.length c).ownBlock = some k) (fun k _ f => .inr (by rw [f]; rfl))).setCell (p := ⟨b, 2, none⟩) (fun _ => .inl rfl) _
  have hb4 : (w3.setCell ⟨b, 2, none⟩ (.slice (some ⟨gg, 0, none⟩) (h.xs.length - 1) c)).heap[b]? = some (.cells #[.int .i64 h.room, .map (some mb), .slice (some ⟨gg, 0, none⟩) (h.xs.length - 1) c, pt g] 55 (0, 0)) := by rw [at_setCell_same HB3.out.1 2]; rfl
  have ho4 := ownsRow_upd (S := fun k => k = b) HB3.out.2.1 ((Upd.refl (fun k => k = b) w3).setCell (p := ⟨b, 2, none⟩) (fun _ => rfl) (.slice (some ⟨gg, 0, none⟩) (h.xs.length - 1) c)) (fun k hk e => hgb (by rw [← e]; injection hk))
  have hlen : h.xs.length - 1 = (h.xs.erase a).length := by rw [List.length_erase_of_mem ha]
  have ho5 : (w3.setCell ⟨b, 2, none⟩ (.slice (some ⟨gg, 0, none⟩) (h.xs.length - 1) c)).ownsRow 0 23 1 (.slice (some ⟨gg, 0, none⟩) (h.xs.length - 1) c) (h.xs.erase a).length (U (h.xs.erase a)) := by rw [← hlen]; exact ho4
  have hL5 := HL2.out.turn hu24 (fun k hk => hk) ho5 (fun k hk => .inl hk) hb4
  have hs12 := HU2.out.size
  refine ⟨rfl, ⟨_, fun q hq => ?_, ⟨_, _, _, _, _, hL5⟩⟩, ?_⟩
  · rcases hq with hq | hq
    · exact .inl hq
    · exact .inr ⟨by have := hq.1; omega, hq.2⟩
  · refine (HU2.out.mono (fun k _ f => by rw [f]; exact HH.out.fmb)).trans (hu24.mono (S' := F) (fun k _ f => ?_)) (fun _ _ f => f)
    rcases f with f | f
    · rw [f]; exact HH.out.fb
    · exact (HH.out.fv k f).1
theorem drop_at {w : World} {b : Nat} {h : Hot} {F : Nat → Prop} (H : HotAt w b h F) (a : Int) (hw : (Lit.int .u32 a).wf = true) (ha : a ∈ h.xs) (hn : h.xs.length ≤ 8000) :
    Calls Try.prog 13 #[pt b, .int .u32 a] w fun e w' => e = .returned (.bool true) ∧ Turned w w' b { h with xs := h.xs.erase a, m := setM h.m a none } F := by
  obtain ⟨mb, g, v, vs, Fg, H⟩ := H
  exact drop_some H a hw ha hn
theorem drop_off {w : World} {b : Nat} {h : Hot} {F : Nat → Prop} (H : HotAt w b h F) (a : Int) (ha : a ∉ h.xs) (hn : h.xs.length ≤ 8000) :
    Calls Try.prog 13 #[pt b, .int .u32 a] w fun e w' => e = .returned (.bool false) ∧ w = w' := by
  obtain ⟨mb, g, v, vs, Fg, H⟩ := H
  exact drop_none H a ha hn
theorem drop_nil (w : World) (a : Int) : Calls Try.prog 13 #[.pointer none, .int .u32 a] w fun e w' => e = .returned (.bool false) ∧ w = w' := by
  go_enter Try.func13, Try.ntmps13
  go_wp2_with fail
  go_ret
  exact ⟨rfl, rfl⟩
theorem get_nil (w : World) (a : Int) : Calls Try.prog 12 #[.pointer none, .int .u32 a] w fun e w' => e = .returned (.tuple #[.slice none 0 0, .bool false]) ∧ w = w' := by
  go_enter Try.func12, Try.ntmps12
  go_wp2_with fail
  go_ret2
  exact ⟨rfl, rfl⟩
theorem offer_nil (w : World) (a : Int) (sv : Value) : Calls Try.prog 11 #[.pointer none, .int .u32 a, sv] w fun e w' => e = .returned (.bool false) ∧ w = w' := by
  go_enter Try.func11, Try.ntmps11
  go_wp2_with fail
  go_ret
  exact ⟨rfl, rfl⟩
theorem hall_nil (w : World) : Calls Try.prog 19 #[.pointer none] w fun e w' => e = .returned (.slice none 0 0) ∧ w = w' := by
  go_enter Try.func19, Try.ntmps19
  go_wp2_with fail
  go_ret
  exact ⟨rfl, rfl⟩
theorem hall_at {w : World} {b : Nat} {h : Hot} {F : Nat → Prop} (H : HotAt w b h F) (hn : h.xs.length ≤ 8000) :
    Calls Try.prog 19 #[pt b] w fun e w' => ∃ v', e = .returned v' ∧ w'.ownsRow w.heap.size 23 1 v' h.xs.length (U h.xs) ∧ Below w.heap.size w w' := by
  obtain ⟨mb, g, v, vs, Fg, H⟩ := H
  have HH := Lib.hid H
  have c2 : w.cell? ⟨b, 2, none⟩ = some v := cell_at H.here 2
  have hfb := fun i => free_at H.here i
  obtain ⟨av, cv, hv⟩ := (owns_reads H.order).len
  clear H
  subst hv
  go_enter Try.func19, Try.ntmps19
  go_wp2_with fail
  refine (clone_calls HH.out.order (by omega)).mono ?_
  rintro e w1 ⟨v1, rfl, ho1, hb1⟩
  have HO := Lib.hid (And.intro ho1 hb1)
  obtain ⟨a1, c1, hv1⟩ := (owns_reads ho1).len
  clear ho1 hb1
  subst hv1
  go_wp2_with fail
  go_ret
  exact ⟨_, rfl, HO.out.1, HO.out.2⟩
theorem zeroBytes (w : World) : (zeroValue 30).run Try.prog w = .ok (.slice none 0 0) w := by kernel_rfl
theorem get_none {w : World} {b : Nat} {h : Hot} {F : Nat → Prop} (H : HotAt w b h F) (a : Int) (hw : (Lit.int .u32 a).wf = true) (hm : h.m a = none) :
    Calls Try.prog 12 #[pt b, .int .u32 a] w fun e w' => e = .returned (.tuple #[.slice none 0 0, .bool false]) ∧ Upd (fun _ => False) w w' := by
  obtain ⟨mb, g, v, vs, Fg, H⟩ := H
  have HH := Lib.hid H
  have c1 : w.cell? ⟨b, 1, none⟩ = some (.map (some mb)) := cell_at H.here 1
  have hfb := fun i => free_at H.here i
  have hlk : alook vs.pairs (.int .u32 a) = none := by
    rw [vs_look]
    have := H.cont a
    rw [hm] at this
    simpa using this
  have HLK := Lib.hid hlk
  clear H hlk
  go_enter Try.func12, Try.ntmps12
  go_wp2_with (first
    | ((with_reducible change wpList _ _ _ (⟨_, Op.lookup _ _ _ _, _, _, _, _⟩ :: _) _ _); refine wpl_lookup_ok rfl _ _ _ rfl _ _ kU32 Try.underlying53 _ (zeroBytes _) mb _ HH.out.map rfl _ _ (keyLit hw) rfl none HLK.out ?_))
  go_ret2
  exact ⟨rfl, Upd.refl _ _⟩
end Go.Proofs.Ytfpbkofjbnmkeaa
