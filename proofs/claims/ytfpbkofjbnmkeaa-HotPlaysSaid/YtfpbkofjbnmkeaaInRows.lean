/- What this text proves: slices that came in whose elements are structs with slices in them. No conditions. -/
import Derived.Test.YtfpbkofjbnmkeaaRowKit
import Derived.Test.YtfpbkofjbnmkeaaAgg
namespace Go.Proofs.Ytfpbkofjbnmkeaa
open Go Go.ChangeShapes Go.WideShapes Go.ChangeAt Go.RowKit
open Go.Proofs

/-- A slice, its elements as they read. -/
theorem open_slice_any {H : Type} {enc : TypeId × Value → H} {P : Program} {w : World} {spare : Nat → Bool} {held : Bool} {base0 : Nat} {t e : TypeId} {size fuel : Nat} {cs : List Value} {x : DataW H × List MemPlace}
    (ht : P.underlying t = some (.slice e)) (hc : P.cellsOf e = size) (hf : DataW.trod enc P w base0 spare held fuel t cs = some x) :
    ∃ v n xs, cs = [v] ∧ Reads w size v n xs ∧ n ≤ maxLen ∧ (∀ i, i < n → ∃ q y, DataW.trod enc P w base0 spare held q e ((xs.drop (i * size)).take size) = some y) ∧ (n * size ≠ 0 → ∀ b, v.ownBlock = some b → b < w.heap.size) := by
  rcases Deep.open_slice ht hf with ⟨rfl, _⟩ | ⟨a', n, c, mm, q, D, Pl, rfl, hb, hl, hm, hmm, _, hx⟩
  · exact ⟨_, 0, [], rfl, ⟨by simp, .inl ⟨rfl, rfl⟩⟩, Nat.zero_le _, fun i hi => absurd hi (Nat.not_lt_zero _), fun h0 => by simp at h0⟩
  · have hle : n ≤ mm := by rw [hmm]; split <;> omega
    have hx' : ∀ i, i < n → ∃ cs', cs'.length = size ∧ (∀ j, j < size → w.cell? (a'.add (i * size + j)) = cs'[j]?) ∧ ∃ q y, DataW.trod enc P w base0 spare held q e cs' = some y := by
      intro i hi
      obtain ⟨cs', h1, h2⟩ := hx i (by omega)
      rw [hc] at h1
      obtain ⟨_, h3, h4⟩ := World.cells?_some h1
      exact ⟨cs', h3, fun j hj => by rw [← add_twice]; exact h4 j hj, _, _, h2⟩
    have build : ∀ k, k ≤ n → ∃ xs : List Value, xs.length = k * size ∧ (∀ j u, xs[j]? = some u → w.cell? (a'.add j) = some u) ∧ ∀ i, i < k → ∃ q y, DataW.trod enc P w base0 spare held q e ((xs.drop (i * size)).take size) = some y := by
      intro k
      induction k with
      | zero => intro _; exact ⟨[], by simp, by simp, fun i hi => absurd hi (Nat.not_lt_zero _)⟩
      | succ k ih =>
        intro hk'
        obtain ⟨xs, g1, g2, g3⟩ := ih (by omega)
        obtain ⟨cs', g4, g5, g6⟩ := hx' k (by omega)
        refine ⟨xs ++ cs', by rw [List.length_append, g1, g4, Nat.add_mul, Nat.one_mul], fun j u hu => ?_, fun i hi => ?_⟩
        · by_cases hj : j < xs.length
          · rw [List.getElem?_append_left hj] at hu
            exact g2 j u hu
          · rw [List.getElem?_append_right (by omega)] at hu
            have hj' : j - xs.length < cs'.length := (List.getElem?_eq_some_iff.1 hu).1
            have := g5 (j - xs.length) (by omega)
            rw [show k * size + (j - xs.length) = j by omega] at this
            rw [this]; exact hu
        · by_cases hik : i < k
          · have hle2 : i * size + size ≤ xs.length := by
              rw [g1]
              calc i * size + size = (i + 1) * size := by rw [Nat.add_mul, Nat.one_mul]
                _ ≤ k * size := Nat.mul_le_mul_right _ hik
            rw [List.drop_append_of_le_length (by omega), List.take_append_of_le_length (by rw [List.length_drop]; omega)]
            exact g3 i hik
          · obtain rfl : i = k := by omega
            rw [← g1, List.drop_left, ← g4, List.take_length]
            exact g6
    obtain ⟨xs, g1, g2, g3⟩ := build n (Nat.le_refl _)
    refine ⟨_, n, xs, rfl, ⟨g1, .inr ⟨a', c, rfl, hl, g2⟩⟩, by omega, g3, fun h0 b hb => ?_⟩
    simp only [Value.ownBlock, Option.some.injEq] at hb
    subst hb
    have := g2 0 (xs[0]'(by omega)) (by simp)
    have := World.block_lt_of_cell? w _ this
    rw [add_block] at this
    exact this
section
variable {P : Program} {w : World} {ops : Array Oper} {rest : List Oper} {o : Oper} {a : Act} {Q : Exit → Act → World → Prop}
/-- 'x[i]', its address, under a guard, too. -/
theorem wpl_indexg (hgd : Region.wanted o (yielded ops a.tmps) = true) (t : TypeId) (x ix : Operand) (ho : o.op = .indexAddr t x ix) (e : TypeId) (size : Nat) (ht : P.underlying t = some (.slice e)) (hsz : ∀ w, (sizeOf e).run P w = .ok size w) (hs0 : 0 < size)
    (v : Value) (n : Nat) (xs : List Value) (h : Reads w size v n xs) (hx : a.eval x = v) (i : Nat) (hix : a.eval ix = .int .i64 i) (hi : i < n)
    (hK : ∀ b off, v.ownBlock = some b → (∀ j u, xs[i * size + j]? = some u → w.cell? ⟨b, off + j, none⟩ = some u) → wpList P ops Q rest (a.put o.dst (.pointer (some ⟨b, off, none⟩))) w) : wpList P ops Q (o :: rest) a w := by
  rcases h.2 with ⟨_, rfl⟩ | ⟨b, c, rfl, hc, hcell⟩
  · omega
  · refine wpList_wanted hgd fun K hK' => ?_
    unfold Oper.wp
    have hr : (Instr.indexAt t (.slice (some b) n c) (.int .i64 i)).run P w = .ok (.pointer (some (b.add (i * size)))) w := by
      simp [Instr.indexAt, run_underlying ht, asIntOf, hi, hsz, Result.andThen]
    simp only [execOp, ho, hx, hix]
    simp only [Sem.run_bind, hr, Result.andThen_ok, Sem.run_pure]
    have hlt : i * size < xs.length := by
      rw [h.1]
      calc i * size < i * size + size := by omega
        _ = (i + 1) * size := by rw [Nat.add_mul, Nat.one_mul]
        _ ≤ n * size := Nat.mul_le_mul_right _ hi
    have hp := plain_of_cell (hcell (i * size) xs[i * size] (by simp [hlt]))
    rw [hp]
    refine hK' _ _ (hK _ _ (by rw [add_block]; rfl) (fun j u hu => ?_))
    have := hcell _ u hu
    rw [← add_twice, hp, add_lit] at this
    exact this
end
end Go.Proofs.Ytfpbkofjbnmkeaa
