/- What this text proves: laws on rows of the call's own that are written element by element, over any program. No conditions. -/
import Derived.Test.YtfpbkofjbnmkeaaSlice
import Derived.OwnWalk
import Derived.Test.YtfpbkofjbnmkeaaRowKit
namespace Go.Proofs.Ytfpbkofjbnmkeaa
open Go Go.RowKit

theorem flatMap_set {α : Type} (f : α → List Value) (size : Nat) (hf : ∀ a, (f a).length = size) : ∀ (l : List α) (k j : Nat) (hk : k < l.length) (_ : j < size) (u : Value) (s' : α) (_ : f s' = (f l[k]).set j u), (l.flatMap f).set (k * size + j) u = (l.set k s').flatMap f
  | [], k, j, hk, _, _, _, _ => by simp at hk
  | a :: l, 0, j, hk, hj, u, s', hs => by
    simp only [List.getElem_cons_zero] at hs
    rw [List.flatMap_cons, List.set_cons_zero, List.flatMap_cons, hs, List.set_append_left _ _ (by rw [hf]; omega)]
    simp
  | a :: l, k + 1, j, hk, hj, u, s', hs => by
    simp only [List.getElem_cons_succ] at hs
    rw [List.flatMap_cons, List.set_cons_succ, List.flatMap_cons, ← flatMap_set f size hf l k j (by simpa using hk) hj u s' hs]
    have e : (k + 1) * size + j = (f a).length + (k * size + j) := by rw [hf, Nat.add_mul]; omega
    rw [e, List.set_append_right _ _ (by omega)]
    congr 2
    omega
theorem flatMap_len {α : Type} (f : α → List Value) (size : Nat) (hf : ∀ a, (f a).length = size) : ∀ l : List α, (l.flatMap f).length = l.length * size
  | [] => by simp
  | a :: l => by rw [List.flatMap_cons, List.length_append, hf, flatMap_len f size hf l, List.length_cons, Nat.add_mul]; omega

section
variable {w : World} {base : Nat} {e : TypeId} {size : Nat} {g n c : Nat} {xs : List Value}
theorem ownsRow_set (h : w.ownsRow base e size (.slice (some ⟨g, 0, none⟩) n c) n xs) (j : Nat) (u : Value) :
    (w.setCell ⟨g, j, none⟩ u).ownsRow base e size (.slice (some ⟨g, 0, none⟩) n c) n (xs.set j u) := by
  refine ⟨by rw [List.length_set]; exact h.1, ?_⟩
  rcases h.2 with ⟨h0, _⟩ | ⟨g', cap, cur, hv, hb, hg, hnc, hcm, hcs, htake⟩
  · cases h0
  · cases hv
    refine .inr ⟨g, c, cur.setIfInBounds j u, rfl, hb, at_setCell_same hg j u, hnc, hcm, by simpa using hcs, ?_⟩
    rw [Array.toList_setIfInBounds, List.take_set, htake]
theorem owns_cell (h : w.ownsRow base e size (.slice (some ⟨g, 0, none⟩) n c) n xs) {j : Nat} {u : Value} (hu : xs[j]? = some u) : w.cell? ⟨g, j, none⟩ = some u := by
  rcases (owns_reads h).2 with ⟨h0, _⟩ | ⟨a, c', hv, _, hx⟩
  · cases h0
  · cases hv
    have := hx j u hu
    rwa [add_lit, Nat.zero_add] at this
theorem owns_free (h : w.ownsRow base e size (.slice (some ⟨g, 0, none⟩) n c) n xs) (j : Nat) : w.frozen? ⟨g, j, none⟩ = false := by
  rcases h.2 with ⟨h0, _⟩ | ⟨g', cap, cur, hv, hb, hg, _⟩
  · cases h0
  · cases hv
    exact free_at hg j
theorem owns_lt (h : w.ownsRow base e size (.slice (some ⟨g, 0, none⟩) n c) n xs) : g < w.heap.size := (h.lt g rfl).2
end

section
variable {P : Program} {w : World} {ops : Array Oper} {rest : List Oper} {o : Oper} {a : Act} {Q : Exit → Act → World → Prop}
/-- 'x[i]', its address, of a row of the call's own. -/
theorem wpl_index_own (hgd : o.guard = none) (t : TypeId) (x ix : Operand) (ho : o.op = .indexAddr t x ix) (e : TypeId) (size : Nat) (ht : P.underlying t = some (.slice e)) (hsz : ∀ w, (sizeOf e).run P w = .ok size w)
    (g n c : Nat) (hx : a.eval x = .slice (some ⟨g, 0, none⟩) n c) (i : Nat) (hix : a.eval ix = .int .i64 i) (hi : i < n)
    (hK : wpList P ops Q rest (a.put o.dst (.pointer (some ⟨g, i * size, none⟩))) w) : wpList P ops Q (o :: rest) a w := by
  refine wpList_plain hgd fun K hK' => ?_
  unfold Oper.wp
  have hr : (Instr.indexAt t (.slice (some ⟨g, 0, none⟩) n c) (.int .i64 i)).run P w = .ok (.pointer (some ⟨g, i * size, none⟩)) w := by
    simp [Instr.indexAt, run_underlying ht, asIntOf, hi, hsz, Result.andThen, add_lit]
  simp only [execOp, ho, hx, hix]
  simp only [Sem.run_bind, hr, Result.andThen_ok, Sem.run_pure]
  exact hK' _ _ hK
/-- the same by itself: for regions that draw. -/
theorem run_index_own {t e : TypeId} {size : Nat} (ht : P.underlying t = some (.slice e)) (hsz : ∀ w, (sizeOf e).run P w = .ok size w) {g n c i : Nat} (hi : i < n) (w : World) :
    (Instr.indexAt t (.slice (some ⟨g, 0, none⟩) n c) (.int .i64 i)).run P w = .ok (.pointer (some ⟨g, i * size, none⟩)) w := by
  simp [Instr.indexAt, run_underlying ht, asIntOf, hi, hsz, Result.andThen, add_lit]
/-- 'x[i]' by itself: for regions that draw. -/
theorem Reads.index {w : World} {t e : TypeId} {size : Nat} (ht : P.underlying t = some (.slice e)) (hsz : ∀ w, (sizeOf e).run P w = .ok size w) (hs0 : 0 < size) {v : Value} {n : Nat} {xs : List Value} (h : Reads w size v n xs) {i : Nat} (hi : i < n) :
    ∃ b off, (∀ W, (Instr.indexAt t v (.int .i64 i)).run P W = .ok (.pointer (some ⟨b, off, none⟩)) W) ∧ v.ownBlock = some b ∧ ∀ j u, xs[i * size + j]? = some u → w.cell? ⟨b, off + j, none⟩ = some u := by
  rcases h.2 with ⟨_, rfl⟩ | ⟨b, c, rfl, hc, hcell⟩
  · omega
  · have hr : ∀ W, (Instr.indexAt t (.slice (some b) n c) (.int .i64 i)).run P W = .ok (.pointer (some (b.add (i * size)))) W := fun W => by
      simp [Instr.indexAt, run_underlying ht, asIntOf, hi, hsz, Result.andThen]
    have hlt : i * size < xs.length := by
      rw [h.1]
      calc i * size < i * size + size := by omega
        _ = (i + 1) * size := by rw [Nat.add_mul, Nat.one_mul]
        _ ≤ n * size := Nat.mul_le_mul_right _ hi
    have hp := plain_of_cell (hcell (i * size) xs[i * size] (by simp [hlt]))
    rw [hp] at hr
    refine ⟨_, _, hr, by rw [add_block]; rfl, fun j u hu => ?_⟩
    have := hcell _ u hu
    rw [← add_twice, hp, add_lit] at this
    exact this
end
open Go.ChangeShapes Go.WideShapes Go.ChangeAt in
/-- A plain struct or array that came in by value. -/
theorem open_agg {H : Type} {enc : TypeId × Value → H} {P : Program} {w : World} {spare : Nat → Bool} {held : Bool} {base0 base : Nat} {r : Reach} {t : TypeId} {m : Nat} {ks : List Fk} {v : Value} {d : DataW H} {p : List MemPlace}
    (ht : (∃ fs, P.underlying t = some (.struct fs)) ∨ ∃ n e, P.underlying t = some (.array n e)) (hk : flatK P m t = some ks) (hok : Value.okWide P w r base t v) (h : DataW.Trod enc P w base0 spare held t v d p) :
    ∃ cs : List Value, v = .agg cs.toArray ∧ Fits ks cs := by
  obtain ⟨cs, rfl⟩ : ∃ cs, v = .agg cs := by
    unfold Value.okWide at hok
    rcases ht with ⟨fs, hu⟩ | ⟨n, e, hu⟩ <;> simp only [hu] at hok
    · obtain ⟨cs, rfl, _⟩ := hok; exact ⟨cs, rfl⟩
    · obtain ⟨cs, rfl, _⟩ := hok; exact ⟨cs, rfl⟩
  obtain ⟨fuel, hf⟩ := h
  have := flat_fits _ _ _ _ _ _ hk hf
  exact ⟨cs.toList, by simp, by simpa [Value.cells] using this⟩
end Go.Proofs.Ytfpbkofjbnmkeaa
