/- What this text proves: slices.Index, Delete, Insert (one number ahead of all) and Clone on rows of numbers that lie in memory of their own. Conditions: each theorem's own. -/
import Derived.Test.YtfpbkofjbnmkeaaShelf
import Derived.Test.YtfpbkofjbnmkeaaAgg
import Derived.Test.YtfpbkofjbnmkeaaSlice
import Derived.Shelf.Spec.SlicesInsert
namespace Go.Proofs.Ytfpbkofjbnmkeaa
open Go Go.RowKit Go.Shelf Go.Lib
open Go.Proofs
set_option linter.unusedVariables false
set_option linter.unusedSimpArgs false

abbrev U (xs : List Int) : List Value := xs.map (Value.int .u32)
theorem U_one (xs : List Int) : ∀ u ∈ U xs, u.oneCell' = true := fun u hu => by obtain ⟨x, _, rfl⟩ := List.mem_map.1 hu; rfl
theorem infoU : (Try.prog.info? 23).map (fun i => (i.zero, i.size, i.bytes)) = some (some (.int .u32 0), 1, 4) := by kernel_rfl
/-- where a stands. -/
def idxI (xs : List Int) (a : Int) : Int := Lib.idxBy (fun x y => x == y) xs a
theorem idxI_none {xs : List Int} {a : Int} (h : a ∉ xs) : idxI xs a = -1 := by
  have := Lib.idxBy_miss (fun x y : Int => x == y) xs xs.length a (fun j hj => by
    have : xs[j]! = xs[j] := getElem!_pos xs j hj
    rw [this]
    simpa using fun e : a = xs[j] => h (e ▸ List.getElem_mem hj))
  rwa [List.take_length] at this
theorem idxI_some {xs : List Int} {a : Int} (h : a ∈ xs) : ∃ i : Nat, idxI xs a = i ∧ i < xs.length ∧ xs[i]? = some a ∧ xs.eraseIdx i = xs.erase a := by
  classical
  have hlt : xs.idxOf a < xs.length := List.idxOf_lt_length_of_mem h
  have hget : xs[xs.idxOf a]? = some a := by rw [List.getElem?_eq_getElem hlt, List.getElem_idxOf hlt]
  refine ⟨xs.idxOf a, ?_, hlt, hget, (List.erase_eq_eraseIdx_of_idxOf rfl).symm⟩
  have := Lib.idxBy_hit (fun x y : Int => x == y) xs xs.length (xs.idxOf a) a hlt (Nat.le_refl _) (by
    have : xs[xs.idxOf a]! = xs[xs.idxOf a] := getElem!_pos xs _ hlt
    rw [this, List.getElem_idxOf hlt]
    simp) (fun j hj => by
    have hjl : j < xs.length := by omega
    have e : xs[j]! = xs[j] := getElem!_pos xs j hjl
    rw [e]
    have hne : (xs[j] == a) = false := List.not_of_lt_findIdx (p := (· == a)) hj
    rw [beq_eq_false_iff_ne] at hne ⊢
    exact fun e => hne e.symm)
  rwa [List.take_length] at this
theorem index_calls {w : World} {base n : Nat} {v : Value} {xs : List Int} (h : w.ownsRow base 23 1 v n (U xs)) (a : Int) (hn : n ≤ maxLen) :
    Calls Try.prog 25 #[v, .int .u32 a] w fun e w' => e = .returned (.int .i64 (idxI xs a)) ∧ w' = w := by
  have hl : xs.length = n := by have := h.1; simpa using this
  rcases h.2 with ⟨rfl, rfl⟩ | ⟨g, cap, cur, rfl, hb, hg, hnc, hcm, hcs, htake⟩
  · have e : xs = [] := List.eq_nil_of_length_eq_zero hl
    subst e
    have := AnyE.slices_Index_empty layIndex none 0 (.int .u32 a) w
    exact this
  · have hc : ∀ j, j < xs.length → w.cell? ⟨g, 0 + j, none⟩ = some (Value.int .u32 xs[j]!) := fun j hj => by
      rw [Nat.zero_add]
      have e : xs[j]! = xs[j] := getElem!_pos xs j hj
      rw [e]
      exact owns_cell h (by simp [hj])
    have := AnyE.slices_Index layIndex (Value.int .u32) _ (EqlAt.int _ _ .u32) g 0 n cap xs a w (by omega) (by unfold maxLen at hn; omega) hc
    rw [← hl] at this ⊢
    rw [List.take_length] at this
    exact this
theorem at_putRow {α : Type} [Inhabited α] (enc : α → Value) {w : World} {g : Nat} {cur : Array Value} {e : TypeId} {f : Nat × Nat} (h : w.heap[g]? = some (.cells cur e f)) (off : Nat) (d : Array α) : (Go.Sort.putRow enc w g off d).heap[g]? = some (.cells (Go.Sort.putCells enc off d cur) e f) := by
  unfold Go.Sort.putRow Go.Sort.mapBlock
  simp only [Array.getElem?_modify, if_true, h]
  rfl
theorem upd_putRow {α : Type} [Inhabited α] (enc : α → Value) (w : World) (g off : Nat) (d : Array α) (q : Nat) : Upd (fun k => k = g) w (Go.Sort.putRow enc (Go.Sort.ahead w q) g off d) := by
  refine ⟨rfl, rfl, rfl, ?_, fun k hk hn => ?_⟩
  · unfold Go.Sort.putRow Go.Sort.mapBlock Go.Sort.ahead
    simp
  · unfold Go.Sort.putRow Go.Sort.mapBlock Go.Sort.ahead
    simp only [Array.getElem?_modify]
    rw [if_neg (fun e => hn e.symm)]
theorem delete_calls {w : World} {base n g c : Nat} {xs : List Int} (h : w.ownsRow base 23 1 (.slice (some ⟨g, 0, none⟩) n c) n (U xs)) {i : Nat} (hi : i < n) :
    Calls Try.prog 26 #[.slice (some ⟨g, 0, none⟩) n c, .int .i64 i, .int .i64 ((i : Int) + 1)] w fun e w' =>
      e = .returned (.slice (some ⟨g, 0, none⟩) (n - 1) c) ∧ w'.ownsRow base 23 1 (.slice (some ⟨g, 0, none⟩) (n - 1) c) (n - 1) (U (xs.eraseIdx i)) ∧ Upd (fun k => k = g) w w' := by
  have hl : xs.length = n := by have := h.1; simpa using this
  have hown := h
  rcases h.2 with ⟨h0, _⟩ | ⟨g', cap, cur, hv, hb, hg, hnc, hcm, hcs, htake⟩
  · cases h0
  cases hv
  obtain ⟨i0, hi0, hz0, hz1, hz2⟩ := info_parts infoU
  have hH : Go.Sort.Holds (Value.int .u32) w g 0 xs.toArray := fun j hj => by
    have hj' : j < xs.length := by simpa using hj
    refine ⟨?_, by rw [Nat.zero_add]; exact owns_free hown j⟩
    rw [Nat.zero_add]
    have e : xs.toArray[j]! = xs[j] := by rw [getElem!_pos xs.toArray j hj]; simp
    rw [e]
    exact owns_cell hown (by simp [hj'])
  have hD := AnyE.slices_Delete layDelete (Value.int .u32) (fun _ => rfl) 0 (fun w => by kernel_rfl) i0 hi0 hz1 g 0 c i (i + 1) xs.toArray w hH (by simp; omega) (by unfold maxLen at hcm; omega) (by omega) (by simp; omega)
  have e1 : xs.toArray.size = n := by simp [hl]
  have e2 : ((i + 1 : Nat) : Int) = (i : Int) + 1 := by omega
  rw [e1, e2, Nat.add_sub_cancel_left] at hD
  refine Calls.mono hD ?_
  rintro e w' ⟨rfl, q, rfl⟩
  have her : xs.take i ++ xs.drop (i + 1) = xs.eraseIdx i := (List.eraseIdx_eq_take_drop_succ xs i).symm
  have hlen : (xs.eraseIdx i).length = n - 1 := by rw [List.length_eraseIdx_of_lt (by omega), hl]
  refine ⟨rfl, ⟨by simp [hlen], .inr ⟨g, c, _, rfl, hb, at_putRow _ (w := Go.Sort.ahead w q) hg 0 _, by omega, hcm, ?_, ?_⟩⟩, upd_putRow _ w g 0 _ q⟩
  · unfold Go.Sort.putCells
    simpa using hcs
  · have hd : ((xs.toArray.toList.take i ++ xs.toArray.toList.drop (i + 1)) ++ List.replicate 1 0).toArray.size = n := by simp; omega
    apply List.ext_getElem?
    intro j
    rw [List.getElem?_take]
    by_cases hj : j < (n - 1) * 1
    · rw [if_pos hj]
      unfold Go.Sort.putCells
      rw [Array.getElem?_toList, Array.getElem?_mapIdx]
      have hjc : j < cur.size := by rw [hcs]; omega
      rw [Array.getElem?_eq_getElem hjc, Option.map_some, if_pos ⟨Nat.zero_le _, by rw [hd]; omega⟩]
      have hj2 : j < (xs.eraseIdx i).length := by omega
      have e3 : ((xs.toArray.toList.take i ++ xs.toArray.toList.drop (i + 1)) ++ List.replicate 1 0).toArray[j - 0]! = (xs.eraseIdx i)[j] := by
        rw [getElem!_pos _ _ (by rw [hd]; omega)]
        simp only [List.getElem_toArray, Nat.sub_zero]
        rw [List.getElem_append_left (by rw [her]; exact hj2)]
        simp only [her]
      rw [e3]
      simp [hj2]
    · rw [if_neg hj]
      rw [List.getElem?_eq_none (by simp; omega)]
theorem clone_calls {w : World} {base n : Nat} {v : Value} {xs : List Int} (h : w.ownsRow base 23 1 v n (U xs)) (hn : n ≤ 8192) :
    Calls Try.prog 30 #[v] w fun e w' => ∃ v', e = .returned v' ∧ w'.ownsRow w.heap.size 23 1 v' n (U xs) ∧ Below w.heap.size w w' := by
  have hl : xs.length = n := by have := h.1; simpa using this
  rcases h.2 with ⟨rfl, rfl⟩ | ⟨g, cap, cur, rfl, hb, hg, hnc, hcm, hcs, htake⟩
  · have e : xs = [] := List.eq_nil_of_length_eq_zero hl
    subst e
    refine Calls.mono (AnyE.slices_Clone_nil layCloneU 0 0 w) ?_
    rintro e w' ⟨rfl, rfl⟩
    exact ⟨_, rfl, ⟨rfl, .inl ⟨rfl, rfl⟩⟩, Below.refl _ _⟩
  · obtain ⟨i0, hi0, hz0, hz1, hz2⟩ := info_parts infoU
    refine Calls.mono (AnyE.slices_Clone layCloneU i0 (.int .u32 0) 1 4 hi0 hz0 hz1 hz2 rfl (by decide) (fun w => by kernel_rfl) g 0 n cap (U xs) w (by simp [hl]) (by unfold maxLen; omega) (by omega) (fun j u hu => by rw [Nat.zero_add]; exact owns_cell h hu) (U_one xs)) ?_
    rintro e w' ⟨v', rfl, h1, _, h2⟩
    exact ⟨v', rfl, h1, h2⟩
end Go.Proofs.Ytfpbkofjbnmkeaa
