/- What this text proves: what the rows of the laws want of a walk that leaves all old memory as it was. Conditions: each theorem's own. -/
import Derived.Test.YtfpbkofjbnmkeaaRows
import Derived.Test.YtfpbkofjbnmkeaaSlice
import Derived.Deep.Slices
import Derived.ProofKit
import Derived.SizedLaws
import Derived.OpenShut
namespace Go.Proofs.Ytfpbkofjbnmkeaa
open Go Go.ChangeShapes Go.WideShapes Go.ChangeAt Go.RowKit

theorem ownKnobTry : ownKnob Try.prog.godebug = none := by kernel_rfl
theorem laidOutTry : laidOutB Try.prog = true := by kernel_rfl

theorem trodAll_below {H : Type} {enc : TypeId × Value → H} {P : Program} (hl : laidOutB P = true) {W W' : World} (hb : Below W.heap.size W W') : ∀ {ts : List TypeId} {vs : List Value} {ds : List (DataW H)} {ps : List MemPlace},
    (∀ t ∈ ts, P.readableRec t = true ∧ t < P.types.size) → DataW.TrodAll enc P W 0 (fun _ => true) true ts vs ds ps → (∀ x ∈ ps, x.block < W.heap.size) →
    DataW.TrodAll enc P W' 0 (fun b => decide (b < W.heap.size)) true ts vs ds ps
  | [], vs, ds, ps, _, h, _ => by
    obtain ⟨rfl, rfl, rfl⟩ := trodAll_nil h
    exact trodAll_mk0
  | t :: ts, vs, ds, ps, ht, h, hlt => by
    obtain ⟨v, vs', d, ds', p, q, rfl, rfl, rfl, h0, hs⟩ := trodAll_cons h
    have h1 := ht t (by simp)
    exact trodAll_cons_mk (Below.trod hl h1.1 h1.2 h0 hb (fun x hx => hlt x (by simp [hx]))) (trodAll_below hl hb (fun t' ht' => ht t' (by simp [ht'])) hs (fun x hx => hlt x (by simp [hx])))

/-! ### types of plain numbers and bools all through -/
inductive Fk where
  | bool
  | int (k : IntKind)
def Fk.fits : Fk → Value → Prop
  | .bool, v => ∃ b, v = .bool b
  | .int k, v => ∃ n, v = .int k n ∧ (Lit.int k n).wf = true
def Fits : List Fk → List Value → Prop
  | [], [] => True
  | k :: ks, v :: vs => k.fits v ∧ Fits ks vs
  | _, _ => False
theorem Fits.append : ∀ {ks ks' : List Fk} {vs vs' : List Value}, Fits ks vs → Fits ks' vs' → Fits (ks ++ ks') (vs ++ vs')
  | [], _, [], _, _, h => h
  | [], _, _ :: _, _, h, _ => h.elim
  | _ :: _, _, [], _, h, _ => h.elim
  | _ :: _, _, _ :: _, _, ⟨h1, h2⟩, h => ⟨h1, h2.append h⟩
theorem Fits.length : ∀ {ks : List Fk} {vs : List Value}, Fits ks vs → vs.length = ks.length
  | [], [], _ => rfl
  | [], _ :: _, h => h.elim
  | _ :: _, [], h => h.elim
  | _ :: _, _ :: _, ⟨_, h2⟩ => by simp [h2.length]
def flatFields (g : TypeId → Option (List Fk)) (P : Program) (total : Nat) : Nat → List Field → Option (List Fk)
  | o, [] => if o = total then some [] else none
  | o, f :: r => if f.offset = o then (g f.type).bind fun ks => if ks.length = P.cellsOf f.type then (flatFields g P total (o + ks.length) r).map (ks ++ ·) else none else none
def flatK (P : Program) : Nat → TypeId → Option (List Fk)
  | 0, _ => none
  | n + 1, t => match P.underlying t with
    | some .bool => some [.bool]
    | some (.int k) => some [.int k]
    | some (.struct fs) => flatFields (flatK P n) P (P.cellsOf t) 0 fs.toList
    | some (.array m e) => (flatK P n e).bind fun ks => if ks.length = P.cellsOf e ∧ P.cellsOf t = m * ks.length then some (List.replicate m ks).flatten else none
    | _ => none
theorem flatFields_fits {g : TypeId → Option (List Fk)} {P : Program} {ok : TypeId → List Value → Prop} (hg : ∀ t ks cs, g t = some ks → ok t cs → Fits ks cs) {total : Nat} {cs : List Value} (hl : cs.length = total) :
    ∀ (fs : List Field) (o : Nat) (ks : List Fk), flatFields g P total o fs = some ks → (∀ f ∈ fs, ok f.type ((cs.drop f.offset).take (P.cellsOf f.type))) → Fits ks (cs.drop o)
  | [], o, ks, h, _ => by
    simp only [flatFields] at h
    split at h
    · rename_i ho
      cases h
      rw [List.drop_of_length_le (by omega)]
      trivial
    · cases h
  | f :: r, o, ks, h, hf => by
    simp only [flatFields] at h
    split at h
    · rename_i ho
      obtain ⟨k1, h1, h2⟩ := Option.bind_eq_some_iff.1 h
      split at h2
      · rename_i hc
        obtain ⟨k2, h3, rfl⟩ := Option.map_eq_some_iff.1 h2
        have e1 := hg _ _ _ h1 (hf f (by simp))
        have e2 := flatFields_fits hg hl r _ _ h3 (fun f' hf' => hf f' (by simp [hf']))
        rw [ho, ← hc] at e1
        have : cs.drop o = (cs.drop o).take k1.length ++ cs.drop (o + k1.length) := by
          rw [← List.drop_drop, List.take_append_drop]
        rw [this]
        exact e1.append e2
      · cases h2
    · cases h
theorem flat_fits {H : Type} {enc : TypeId × Value → H} {P : Program} {w : World} {base : Nat} {spare : Nat → Bool} {held : Bool} : ∀ (n : Nat) (t : TypeId) (ks : List Fk) (fuel : Nat) (cs : List Value) (x : DataW H × List MemPlace),
    flatK P n t = some ks → DataW.trod enc P w base spare held fuel t cs = some x → Fits ks cs
  | 0, _, _, _, _, _, h, _ => by cases h
  | n + 1, t, ks, fuel, cs, x, h, hx => by
    simp only [flatK] at h
    split at h
    · rename_i hu
      cases h
      obtain ⟨b, rfl, _⟩ := DataW.trod_bool hu hx
      exact ⟨⟨b, rfl⟩, trivial⟩
    · rename_i k hu
      cases h
      obtain ⟨a, rfl, _, hw⟩ := DataW.trod_int hu hx
      exact ⟨⟨a, rfl, hw⟩, trivial⟩
    · rename_i fs hu
      obtain ⟨xs, m, _, _, hl, hxl, hf⟩ := DataW.trod_struct hu hx
      have := flatFields_fits (ok := fun t cs => ∃ x, DataW.trod enc P w base spare held m t cs = some x) (fun t' ks' cs' h1 ⟨x', h2⟩ => flat_fits n t' ks' m cs' x' h1 h2) hl fs.toList 0 ks h (fun f hfm => by
        obtain ⟨i, hi⟩ := List.getElem?_of_mem hfm
        have h1 := hf i f (by simpa using hi)
        have hil : i < xs.length := by rw [hxl]; simpa using (List.getElem?_eq_some_iff.1 hi).1
        exact ⟨xs[i], by rw [h1]; simp [hil]⟩)
      simpa using this
    · rename_i m e hu
      obtain ⟨k1, h1, h2⟩ := Option.bind_eq_some_iff.1 h
      split at h2
      · rename_i hc
        cases h2
        obtain ⟨xs, q, _, _, hl, hxl, hf⟩ := DataW.trod_array hu hx
        have key : ∀ j, j ≤ m → Fits (List.replicate j k1).flatten (cs.drop ((m - j) * k1.length)) := by
          intro j
          induction j with
          | zero => intro _; rw [List.drop_of_length_le (by rw [hl, hc.2]; simp)]; trivial
          | succ j ih =>
            intro hj
            have hi : m - (j + 1) < m := by omega
            have g1 := hf _ hi
            have hil : m - (j + 1) < xs.length := by omega
            rw [List.getElem?_eq_getElem hil] at g1
            have g2 := flat_fits n e k1 q _ _ h1 g1
            have g3 := ih (by omega)
            rw [List.replicate_succ, List.flatten_cons]
            have : cs.drop ((m - (j + 1)) * k1.length) = (cs.drop ((m - (j + 1)) * k1.length)).take k1.length ++ cs.drop ((m - j) * k1.length) := by
              have e : (m - j) * k1.length = (m - (j + 1)) * k1.length + k1.length := by
                rw [show m - j = (m - (j + 1)) + 1 by omega, Nat.add_mul, Nat.one_mul]
              rw [e, ← List.drop_drop, List.take_append_drop]
            rw [this]
            rw [← hc.1] at g2
            exact g2.append g3
        simpa using key m (Nat.le_refl _)
      · cases h2
    · cases h

/-- a list out of its pieces. -/
theorem list_of_pieces {α : Type} (f : α → List Value) (good : α → Prop) (size : Nat) (hf : ∀ a, (f a).length = size) : ∀ (n : Nat) (xs : List Value), xs.length = n * size → (∀ i, i < n → ∃ a, (xs.drop (i * size)).take size = f a ∧ good a) →
    ∃ l : List α, l.length = n ∧ xs = l.flatMap f ∧ ∀ a ∈ l, good a
  | 0, xs, hl, _ => ⟨[], rfl, by simpa using List.eq_nil_of_length_eq_zero (by simpa using hl), by simp⟩
  | n + 1, xs, hl, h => by
    obtain ⟨a, ha, hga⟩ := h 0 (by omega)
    obtain ⟨l, h1, h2, h3⟩ := list_of_pieces f good size hf n (xs.drop size) (by rw [List.length_drop, hl, Nat.add_mul]; omega) (fun i hi => by
      obtain ⟨b, hb, hgb⟩ := h (i + 1) (by omega)
      exact ⟨b, by rw [List.drop_drop, ← hb]; congr 2; rw [Nat.add_mul]; omega, hgb⟩)
    refine ⟨a :: l, by simp [h1], ?_, ?_⟩
    · rw [List.flatMap_cons, ← h2, ← ha]
      simp [List.take_append_drop]
    · intro b hb
      rcases List.mem_cons.1 hb with rfl | hb
      · exact hga
      · exact h3 b hb

/-- A slice of plain structs that came in. -/
theorem open_flat {H : Type} {enc : TypeId × Value → H} {P : Program} {w : World} {spare : Nat → Bool} {held : Bool} {base0 : Nat} {t e : TypeId} {size m : Nat} {ks : List Fk} {v : Value} {d : DataW H} {p : List MemPlace}
    (ht : P.underlying t = some (.slice e)) (hc : P.cellsOf e = size) (hk : flatK P m e = some ks) (hok : ∃ a n c, v = .slice a n c) (h : DataW.Trod enc P w base0 spare held t v d p) :
    ∃ n xs, Reads w size v n xs ∧ n ≤ maxLen ∧ (∀ i, i < n → Fits ks ((xs.drop (i * size)).take size)) ∧ ∀ b, v.ownBlock = some b → b < w.heap.size ∨ n * size = 0 := by
  obtain ⟨a, n, c, rfl⟩ := hok
  obtain ⟨fuel, hf⟩ := h
  rcases Deep.open_slice ht hf with ⟨hcs, _⟩ | ⟨a', len, cap, mm, q, D, Pl, hcs, hb, hl, hm, hmm, _, hx⟩
  · simp [Value.cells] at hcs
    obtain ⟨rfl, rfl, rfl⟩ := hcs
    exact ⟨0, [], ⟨by simp, .inl ⟨rfl, rfl⟩⟩, Nat.zero_le _, fun i hi => absurd hi (Nat.not_lt_zero _), fun b hb => by simp [Value.ownBlock] at hb⟩
  · simp [Value.cells] at hcs
    obtain ⟨rfl, rfl, rfl⟩ := hcs
    have hle : n ≤ mm := by rw [hmm]; split <;> omega
    have hx' : ∀ i, i < n → ∃ cs', cs'.length = size ∧ (∀ j, j < size → w.cell? (a'.add (i * size + j)) = cs'[j]?) ∧ Fits ks cs' := by
      intro i hi
      obtain ⟨cs', h1, h2⟩ := hx i (by omega)
      rw [hc] at h1
      obtain ⟨_, h3, h4⟩ := World.cells?_some h1
      exact ⟨cs', h3, fun j hj => by rw [← add_twice]; exact h4 j hj, flat_fits _ _ _ _ _ _ hk h2⟩
    have build : ∀ k, k ≤ n → ∃ xs : List Value, xs.length = k * size ∧ (∀ j u, xs[j]? = some u → w.cell? (a'.add j) = some u) ∧ ∀ i, i < k → Fits ks ((xs.drop (i * size)).take size) := by
      intro k
      induction k with
      | zero => intro _; exact ⟨[], by simp, by simp, fun i hi => absurd hi (Nat.not_lt_zero _)⟩
      | succ k ih =>
        intro hk'
        obtain ⟨xs, g1, g2, g3⟩ := ih (by omega)
        obtain ⟨cs', g4, g5, g6⟩ := hx' k (by omega)
        refine ⟨xs ++ cs', by rw [List.length_append, g1, g4, Nat.add_mul, Nat.one_mul], fun j u hu => ?_, fun i hi => ?_⟩
        · by_cases hj : j < xs.length
          · rw [List.getElem?_append_left hj] at hu
            exact g2 j u hu
          · rw [List.getElem?_append_right (by omega)] at hu
            have hj' : j - xs.length < cs'.length := (List.getElem?_eq_some_iff.1 hu).1
            have := g5 (j - xs.length) (by omega)
            rw [show k * size + (j - xs.length) = j by omega] at this
            rw [this]; exact hu
        · by_cases hik : i < k
          · have hle2 : i * size + size ≤ xs.length := by
              rw [g1]
              calc i * size + size = (i + 1) * size := by rw [Nat.add_mul, Nat.one_mul]
                _ ≤ k * size := Nat.mul_le_mul_right _ hik
            rw [List.drop_append_of_le_length (by omega), List.take_append_of_le_length (by rw [List.length_drop]; omega)]
            exact g3 i hik
          · obtain rfl : i = k := by omega
            rw [← g1, List.drop_left, ← g4, List.take_length]
            exact g6
    obtain ⟨xs, g1, g2, g3⟩ := build n (Nat.le_refl _)
    refine ⟨n, xs, ⟨g1, .inr ⟨a', c, rfl, hl, g2⟩⟩, by omega, g3, fun b hb => ?_⟩
    simp only [Value.ownBlock, Option.some.injEq] at hb
    subst hb
    by_cases h0 : n * size = 0
    · exact .inr h0
    · have := g2 0 xs[0] (by simp)
      have := World.block_lt_of_cell? w _ this
      rw [add_block] at this
      exact .inl this
theorem Reads.below {w w' : World} {size : Nat} {v : Value} {n : Nat} {xs : List Value} {B : Nat} (h : Reads w size v n xs) (hb : Below B w w') (hB : w.heap.size ≤ B) : Reads w' size v n xs :=
  h.keep (fun k _ hk => hb.block k (by omega))

theorem flatMap_take {α : Type} (f : α → List Value) (size : Nat) (hf : ∀ a, (f a).length = size) : ∀ (l : List α) (n : Nat), (l.flatMap f).take (n * size) = (l.take n).flatMap f
  | [], n => by simp
  | a :: l, 0 => by simp
  | a :: l, n + 1 => by
    rw [List.flatMap_cons, List.take_succ_cons, List.flatMap_cons, List.take_append, hf, ← flatMap_take f size hf l n, Nat.add_mul, Nat.one_mul, List.take_of_length_le (by rw [hf]; omega)]
    congr 2
    omega
theorem flatMap_get {α : Type} (f : α → List Value) (size : Nat) (hf : ∀ a, (f a).length = size) : ∀ (l : List α) (k j : Nat) (hk : k < l.length), j < size → (l.flatMap f)[k * size + j]? = (f l[k])[j]?
  | [], k, j, hk, _ => by simp at hk
  | a :: l, 0, j, hk, hj => by
    rw [List.flatMap_cons, List.getElem?_append_left (by rw [hf]; omega)]
    simp
  | a :: l, k + 1, j, hk, hj => by
    rw [List.flatMap_cons, List.getElem?_append_right (by rw [hf, Nat.add_mul]; omega), hf, List.getElem_cons_succ, ← flatMap_get f size hf l k j (by simpa using hk) hj]
    congr 1
    rw [Nat.add_mul]
    omega

theorem wf_u8 {a : Int} (h : (Lit.int .u8 a).wf = true) : 0 ≤ a ∧ a ≤ 255 := by simpa [Lit.wf, IntKind.min, IntKind.max, IntKind.signed, IntKind.bits] using h
theorem wf_u32 {a : Int} (h : (Lit.int .u32 a).wf = true) : 0 ≤ a ∧ a ≤ 4294967295 := by simpa [Lit.wf, IntKind.min, IntKind.max, IntKind.signed, IntKind.bits] using h
theorem wf_u64 {a : Int} (h : (Lit.int .u64 a).wf = true) : 0 ≤ a ∧ a ≤ 18446744073709551615 := by simpa [Lit.wf, IntKind.min, IntKind.max, IntKind.signed, IntKind.bits] using h
theorem wf_i64 {a : Int} (h : (Lit.int .i64 a).wf = true) : -9223372036854775808 ≤ a ∧ a ≤ 9223372036854775807 := by simpa [Lit.wf, IntKind.min, IntKind.max, IntKind.signed, IntKind.bits] using h
theorem flatMap_one {α : Type} (f : α → Value) : ∀ l : List α, l.flatMap (fun x => [f x]) = l.map f
  | [] => rfl
  | a :: l => by rw [List.flatMap_cons, flatMap_one f l]; rfl
end Go.Proofs.Ytfpbkofjbnmkeaa
