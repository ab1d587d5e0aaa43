/- What this text proves: laws on slices that are read as lists of cells, at the operation, for the walk; over any program. No conditions. -/
import Derived.Test.YtfpbkofjbnmkeaaMapW
import Derived.Maps.AppendAt
namespace Go.Proofs.Ytfpbkofjbnmkeaa
open Go Go.RowKit

/-- The slice v has n elements, whose cells are xs. -/
def Reads (w : World) (size : Nat) (v : Value) (n : Nat) (xs : List Value) : Prop :=
  xs.length = n * size ∧ ((v = .slice none 0 0 ∧ n = 0) ∨ ∃ a c, v = .slice (some a) n c ∧ n ≤ c ∧ ∀ j u, xs[j]? = some u → w.cell? (a.add j) = some u)

theorem add_lit (b off j : Nat) : (⟨b, off, none⟩ : Addr).add j = ⟨b, off + j, none⟩ := by unfold Addr.add; split <;> simp_all
theorem add_block (a : Addr) (j : Nat) : (a.add j).block = a.block := by unfold Addr.add; split <;> rfl
theorem add_twice (a : Addr) (i j : Nat) : (a.add i).add j = a.add (i + j) := by
  unfold Addr.add
  by_cases hi : i = 0
  · subst hi; simp
  · by_cases hj : j = 0
    · subst hj; simp
    · rw [if_neg hi, if_neg hj, if_neg (by omega)]
      simp [Nat.add_assoc]
/-- an address at which something lies has no spot. -/
theorem plain_of_cell {w : World} {a : Addr} {u : Value} (h : w.cell? a = some u) : a = ⟨a.block, a.off, none⟩ := by
  obtain ⟨b, off, sp⟩ := a
  cases sp with
  | none => rfl
  | some s =>
    unfold World.cell? at h
    split at h <;> simp at h

theorem owns_reads {w : World} {base : Nat} {e : TypeId} {size : Nat} {v : Value} {n : Nat} {xs : List Value} (h : w.ownsRow base e size v n xs) : Reads w size v n xs := by
  refine ⟨h.1, ?_⟩
  rcases h.2 with hn | ⟨g, cap, cur, rfl, _, hg, hnc, _, _, htake⟩
  · exact .inl hn
  · exact .inr ⟨⟨g, 0, none⟩, cap, rfl, hnc, h.cells (g := g) rfl⟩
theorem Reads.len {w : World} {size : Nat} {v : Value} {n : Nat} {xs : List Value} (h : Reads w size v n xs) : ∃ a c, v = .slice a n c := by
  rcases h.2 with ⟨rfl, rfl⟩ | ⟨a, c, rfl, _⟩
  · exact ⟨none, 0, rfl⟩
  · exact ⟨_, _, rfl⟩
/-- one element of one cell. -/
theorem Reads.elem {w : World} {a : Option Addr} {n c : Nat} {xs : List Value} (h : Reads w 1 (.slice a n c) n xs) (k : Nat) (hk : k < n) {u : Value} (hu : xs[k]? = some u) : ∃ b off, (a = some ⟨b, off, none⟩ ∧ n ≤ c) ∧ w.cell? ⟨b, off + k, none⟩ = some u := by
  rcases h.2 with ⟨_, h0⟩ | ⟨a', c', hv, hc, hx⟩
  · omega
  · cases hv
    have h0 : 0 < xs.length := by rw [h.1]; omega
    have hp := plain_of_cell (hx 0 xs[0] (by simp [h0]))
    have hp' : a' = ⟨a'.block, a'.off, none⟩ := by simpa [Addr.add] using hp
    refine ⟨a'.block, a'.off, ⟨by rw [← hp'], hc⟩, ?_⟩
    have := hx k u hu
    rw [hp', add_lit] at this
    exact this
theorem Reads.keep {w w' : World} {size : Nat} {v : Value} {n : Nat} {xs : List Value} (h : Reads w size v n xs) (hk : ∀ k, v.ownBlock = some k → k < w.heap.size → w'.heap[k]? = w.heap[k]?) : Reads w' size v n xs := by
  refine ⟨h.1, ?_⟩
  rcases h.2 with h0 | ⟨a, c, rfl, hc, hx⟩
  · exact .inl h0
  · refine .inr ⟨a, c, rfl, hc, fun j u hu => ?_⟩
    have := hx j u hu
    have hlt := World.block_lt_of_cell? w _ this
    rw [add_block] at hlt
    exact (World.cell?_of_block (by rw [add_block]; exact hk a.block rfl hlt)).trans this
theorem Reads.upd {S : Nat → Prop} {w w' : World} {size : Nat} {v : Value} {n : Nat} {xs : List Value} (h : Reads w size v n xs) (hu : Upd S w w') (hs : ∀ k, v.ownBlock = some k → ¬ S k) : Reads w' size v n xs :=
  h.keep (fun k hk hlt => hu.block k hlt (hs k hk))
theorem ownsRow_upd {S : Nat → Prop} {w w' : World} {base : Nat} {e : TypeId} {size : Nat} {v : Value} {n : Nat} {xs : List Value} (h : w.ownsRow base e size v n xs) (hu : Upd S w w') (hs : ∀ k, v.ownBlock = some k → ¬ S k) : w'.ownsRow base e size v n xs := by
  refine ⟨h.1, ?_⟩
  rcases h.2 with h0 | ⟨g, cap, cur, rfl, hb, hg, r⟩
  · exact .inl h0
  · exact .inr ⟨g, cap, cur, rfl, hb, hu.at hg (hs g rfl), r⟩
theorem ownsRow_base {w : World} {base base' : Nat} {e : TypeId} {size : Nat} {v : Value} {n : Nat} {xs : List Value} (h : w.ownsRow base e size v n xs) (hb : ∀ k, v.ownBlock = some k → base' ≤ k) : w.ownsRow base' e size v n xs := by
  refine ⟨h.1, ?_⟩
  rcases h.2 with h0 | ⟨g, cap, cur, rfl, _, hg, r⟩
  · exact .inl h0
  · exact .inr ⟨g, cap, cur, rfl, hb g rfl, hg, r⟩
/-- a slice literal. -/
theorem owns_lit (w : World) (xs : List Value) (e : TypeId) (hl : xs.length ≤ maxLen) : (w.alloc (.cells xs.toArray e)).ownsRow w.heap.size e 1 (.slice (some ⟨w.heap.size, 0, none⟩) xs.length xs.length) xs.length xs :=
  ⟨by simp, .inr ⟨w.heap.size, xs.length, xs.toArray, rfl, Nat.le_refl _, at_alloc_new _ _, Nat.le_refl _, hl, by simp, by simp⟩⟩
theorem owns_one (w : World) (x : Value) (e : TypeId) : (w.alloc (.cells #[x] e)).ownsRow w.heap.size e 1 (.slice (some ⟨w.heap.size, 0, none⟩) 1 1) 1 [x] := owns_lit w [x] e (by unfold maxLen; simp)
theorem owns_pos {w : World} {base : Nat} {e : TypeId} {size : Nat} {v : Value} {n : Nat} {xs : List Value} (h : w.ownsRow base e size v n xs) (hn : 0 < n) : ∃ g c, v = .slice (some ⟨g, 0, none⟩) n c ∧ n ≤ c ∧ base ≤ g ∧ g < w.heap.size := by
  rcases h.2 with ⟨_, h0⟩ | ⟨g, cap, cur, rfl, hb, hg, hnc, _⟩
  · omega
  · exact ⟨g, cap, rfl, hnc, hb, lt_of_at hg⟩
/-- s[:k]. -/
theorem ownsRow_take {w : World} {base : Nat} {e : TypeId} {size : Nat} {g n c : Nat} {xs : List Value} (h : w.ownsRow base e size (.slice (some ⟨g, 0, none⟩) n c) n xs) {k : Nat} (hk : k ≤ n) :
    w.ownsRow base e size (.slice (some ⟨g, 0, none⟩) k c) k (xs.take (k * size)) := by
  have hle : k * size ≤ n * size := Nat.mul_le_mul_right _ hk
  refine ⟨by rw [List.length_take, h.1]; omega, ?_⟩
  rcases h.2 with ⟨h0, _⟩ | ⟨g', cap, cur, hv, hb, hg, hnc, hcm, hcs, htake⟩
  · cases h0
  · cases hv
    refine .inr ⟨g, c, cur, rfl, hb, hg, by omega, hcm, hcs, ?_⟩
    rw [← htake, List.take_take, Nat.min_eq_left hle]

section
variable {P : Program} {w : World} {ops : Array Oper} {rest : List Oper} {o : Oper} {a : Act} {Q : Exit → Act → World → Prop}

/-- 'append(dst, src...)': dst a row of the call's own. -/
theorem wpl_append (hgd : o.guard = none) (s x : Operand) (t : TypeId)
    (ho : o.op = .call { callee := .builtin .append, args := #[s, x], argTypes := #[t, t] })
    (base : Nat) (e : TypeId) (i : TypeInfo) (z : Value) (size bytes : Nat) (ht : P.underlying t = some (.slice e)) (hi : P.info? e = some i) (hz : i.zero = some z)
    (hsize : i.size = size) (hby : i.bytes = bytes) (hzs : z.cells.size = size) (hsz : 0 < size)
    (v : Value) (n : Nat) (xs : List Value) (hown : w.ownsRow base e size v n xs) (hs : a.eval s = v)
    (sv : Value) (m : Nat) (news : List Value) (hsrc : Reads w size sv m news) (hx : a.eval x = sv) (h1 : ∀ u ∈ news, u.oneCell' = true)
    (h63 : n + m ≤ maxLen) (hbytes : (n + m) * bytes ≤ 140737488355328) (hbase : base ≤ w.heap.size)
    (h : ∀ v' w', w'.ownsRow base e size v' (n + m) (xs ++ news) → w.grownBy w' v.ownBlock → (v'.ownBlock = v.ownBlock ∨ v'.ownBlock = some w.heap.size) → wpList P ops Q rest (a.put o.dst v') w') :
    wpList P ops Q (o :: rest) a w := by
  rcases hsrc.2 with ⟨rfl, rfl⟩ | ⟨b, c, rfl, hc, hcell⟩
  · have hnews : news = [] := List.eq_nil_of_length_eq_zero (by simpa using hsrc.1)
    subst hnews
    refine wpList_plain hgd fun K hK' => ?_
    have hrun := run_append_owned_none (P := P) w base t o.type e i size ht hi v n xs hown
    unfold Oper.wp
    simp [execOp, ho, resolve, invoke, builtin, hs, hx, hrun, Result.andThen]
    exact hK' _ _ (h v w (by simpa using hown) (World.grownBy.refl _ _) (.inl rfl))
  · exact wpList_append_own_at w hgd s x t ho base e i z size bytes ht hi hz hsize hby hzs hsz v n xs hs hown b m c news hx hsrc.1 hcell h1 h63 hbytes hbase (fun v' w' r1 r2 _ r3 => h v' w' r1 r2 r3)

/-- how 'v[l:k]' lies to v. -/
def Sliced (size : Nat) (v : Value) (n : Nat) (v' : Value) (l k : Nat) : Prop :=
  (∀ W xs, Reads W size v n xs → Reads W size v' (k - l) ((xs.drop (l * size)).take ((k - l) * size))) ∧ (∀ b, v'.ownBlock = some b → v.ownBlock = some b) ∧
  (l = 0 → (v = .slice none 0 0 ∧ v' = .slice none 0 0) ∨ ∃ b c, v = .slice (some b) n c ∧ v' = .slice (some b) k c)

theorem slice_reads {t e : TypeId} {size : Nat} (ht : P.underlying t = some (.slice e)) (hsz : ∀ w, (sizeOf e).run P w = .ok size w) {v : Value} {n : Nat} {xs : List Value} (h : Reads w size v n xs) (lo hi : Option Value) (l k : Nat)
    (hl : (lo = none ∧ l = 0) ∨ lo = some (.int .i64 l)) (hh : (hi = none ∧ k = n) ∨ hi = some (.int .i64 k)) (hlk : l ≤ k) (hkn : k ≤ n) :
    ∃ v', (Instr.sliceAt t v lo hi none).run P w = .ok v' w ∧ Sliced size v n v' l k := by
  have hlen : ∀ ys : List Value, ys.length = n * size → ((ys.drop (l * size)).take ((k - l) * size)).length = (k - l) * size := by
    intro ys hy
    have h1 : l * size ≤ k * size := Nat.mul_le_mul_right _ hlk
    have h2 : k * size ≤ n * size := Nat.mul_le_mul_right _ hkn
    rw [List.length_take, List.length_drop, hy, Nat.sub_mul]
    omega
  have core : ∀ (a : Option Addr) (c : Nat), n ≤ c → (Instr.sliceAt t (.slice a n c) lo hi none).run P w = .ok (.slice (if c = l then a else a.map (·.add (l * size))) (k - l) (c - l)) w := by
    intro a c hnc
    have hb1 : ∀ (i y : Nat) (code : BoundsCode), i ≤ y → (Instr.sliceBound (.int .i64 i) y code).run P w = .ok i w := fun i y code hy => by
      simp [Instr.sliceBound, asIntOf, hy]
    rcases hl with ⟨rfl, rfl⟩ | rfl <;> rcases hh with ⟨rfl, rfl⟩ | rfl
    · simp [Instr.sliceAt, Instr.slice, run_underlying ht, Instr.sliceBounds, hsz, Result.andThen]
    · simp [Instr.sliceAt, Instr.slice, run_underlying ht, Instr.sliceBounds, hsz, Result.andThen, hb1 k c _ (by omega)]
    · simp [Instr.sliceAt, Instr.slice, run_underlying ht, Instr.sliceBounds, hsz, Result.andThen, hb1 l k _ hlk]
    · simp [Instr.sliceAt, Instr.slice, run_underlying ht, Instr.sliceBounds, hsz, Result.andThen, hb1 l k _ hlk, hb1 k c _ (by omega)]
  rcases h.2 with ⟨rfl, rfl⟩ | ⟨b, c, rfl, hc, hx⟩
  · obtain rfl : k = 0 := by omega
    obtain rfl : l = 0 := by omega
    exact ⟨_, core none 0 (Nat.le_refl _), fun W ys hy => ⟨hlen ys hy.1, .inl ⟨by simp, rfl⟩⟩, by simp [Value.ownBlock], fun _ => .inl ⟨rfl, by simp⟩⟩
  · by_cases hcl : c = l
    · refine ⟨_, core _ c hc, fun W ys hy => ⟨hlen ys hy.1, .inr ⟨b, c - l, by simp [hcl], by omega, fun j u hu => ?_⟩⟩, by simp [Value.ownBlock, hcl], fun h0 => .inr ⟨b, c, rfl, ?_⟩⟩
      · have : (k - l) = 0 := by omega
        rw [this] at hu
        simp at hu
      · subst h0
        subst hcl
        simp
    · refine ⟨_, core _ c hc, fun W ys hy => ⟨hlen ys hy.1, .inr ⟨b.add (l * size), c - l, ?_, by omega, fun j u hu => ?_⟩⟩, ?_, fun h0 => .inr ⟨b, c, rfl, ?_⟩⟩
      · simp only [if_neg hcl, Option.map_some]
      · rcases hy.2 with ⟨hy0, _⟩ | ⟨b', c', hv', _, hy2⟩
        · cases hy0
        · cases hv'
          rw [List.getElem?_take] at hu
          split at hu
          · rw [List.getElem?_drop] at hu
            rw [add_twice]
            exact hy2 _ u hu
          · cases hu
      · intro b' hb'
        simp only [if_neg hcl, Option.map_some, Value.ownBlock, add_block] at hb' ⊢
        exact hb'
      · subst h0
        simp [Addr.add]

/-- 'x[lo:hi]' of a slice. -/
theorem wpl_slice (hgd : o.guard = none) (t : TypeId) (x : Operand) (lo hi : Option Operand) (ho : o.op = .slice t x lo hi none) (e : TypeId) (size : Nat) (ht : P.underlying t = some (.slice e)) (hsz : ∀ w, (sizeOf e).run P w = .ok size w)
    (v : Value) (n : Nat) (xs : List Value) (h : Reads w size v n xs) (hx : a.eval x = v) (l k : Nat)
    (hl : (lo = none ∧ l = 0) ∨ lo.map a.eval = some (.int .i64 l)) (hh : (hi = none ∧ k = n) ∨ hi.map a.eval = some (.int .i64 k)) (hlk : l ≤ k) (hkn : k ≤ n)
    (hK : ∀ v', Sliced size v n v' l k → wpList P ops Q rest (a.put o.dst v') w) : wpList P ops Q (o :: rest) a w := by
  obtain ⟨v', hr, r1⟩ := slice_reads ht hsz h (lo.map a.eval) (hi.map a.eval) l k (hl.imp (fun h => ⟨by simp [h.1], h.2⟩) id) (hh.imp (fun h => ⟨by simp [h.1], h.2⟩) id) hlk hkn
  refine wpList_plain hgd fun K hK' => ?_
  unfold Oper.wp
  simp only [execOp, ho, hx, Option.map_none]
  simp only [Sem.run_bind, hr, Result.andThen_ok, Sem.run_pure]
  exact hK' _ _ (hK v' r1)

/-- 'x[i]', its address: nil and the rest by one law. -/
theorem wpl_index (hgd : o.guard = none) (t : TypeId) (x ix : Operand) (ho : o.op = .indexAddr t x ix) (e : TypeId) (size : Nat) (ht : P.underlying t = some (.slice e)) (hsz : ∀ w, (sizeOf e).run P w = .ok size w) (hs0 : 0 < size)
    (v : Value) (n : Nat) (xs : List Value) (h : Reads w size v n xs) (hx : a.eval x = v) (i : Nat) (hix : a.eval ix = .int .i64 i) (hi : i < n)
    (hK : ∀ b off, v.ownBlock = some b → (∀ j u, xs[i * size + j]? = some u → w.cell? ⟨b, off + j, none⟩ = some u) → wpList P ops Q rest (a.put o.dst (.pointer (some ⟨b, off, none⟩))) w) : wpList P ops Q (o :: rest) a w := by
  rcases h.2 with ⟨_, rfl⟩ | ⟨b, c, rfl, hc, hcell⟩
  · omega
  · refine wpList_plain hgd fun K hK' => ?_
    unfold Oper.wp
    have hr : (Instr.indexAt t (.slice (some b) n c) (.int .i64 i)).run P w = .ok (.pointer (some (b.add (i * size)))) w := by
      simp [Instr.indexAt, run_underlying ht, asIntOf, hi, hsz, Result.andThen]
    simp only [execOp, ho, hx, hix]
    simp only [Sem.run_bind, hr, Result.andThen_ok, Sem.run_pure]
    have hlt : i * size < xs.length := by
      rw [h.1]
      calc i * size < i * size + size := by omega
        _ = (i + 1) * size := by rw [Nat.add_mul, Nat.one_mul]
        _ ≤ n * size := Nat.mul_le_mul_right _ hi
    have hp := plain_of_cell (hcell (i * size) xs[i * size] (by simp [hlt]))
    rw [hp]
    refine hK' _ _ (hK _ _ (by rw [add_block]; rfl) (fun j u hu => ?_))
    have := hcell _ u hu
    rw [← add_twice, hp, add_lit] at this
    exact this
end
end Go.Proofs.Ytfpbkofjbnmkeaa
