/- What this text proves: laws on whole structs and arrays, cells as opaque lists, over any program. No conditions. -/
import Derived.Test.YtfpbkofjbnmkeaaHeld
import Derived.Test.YtfpbkofjbnmkeaaOwn
import Derived.Test.YtfpbkofjbnmkeaaMapW
import Derived.Test.YtfpbkofjbnmkeaaSlice
import Derived.Laws.Tables
import Derived.Deep.MidRow
import Derived.Deep.WholeRow
namespace Go.Proofs.Ytfpbkofjbnmkeaa
open Go Go.RowKit

theorem Upd.setCells {S : Nat → Prop} {a : World} {g : Nat} (hg : g < a.heap.size → S g) : ∀ (vs : List Value) (o : Nat) {b : World}, Upd S a b → Upd S a (b.setCells g o vs)
  | [], _, _, h => h
  | v :: r, o, b, h => by
    rw [World.setCells]
    exact Upd.setCells hg r (o + 1) (h.setCell (p := ⟨g, o, none⟩) hg v)
theorem there_at {w : World} {g : Nat} {cur : Array Value} {e : TypeId} (h : w.heap[g]? = some (.cells cur e (0, 0))) {o n : Nat} (hn : o + n ≤ cur.size) : w.there g o n := fun j hj => by
  rw [cell_at h, free_at h]
  exact ⟨by simp; omega, rfl⟩
theorem there_new (w : World) (zs : Array Value) (e : TypeId) {n : Nat} (hn : n ≤ zs.size) : (w.alloc (.cells zs e)).there w.heap.size 0 n := there_at (heap_alloc_last w _) (by omega)
theorem range_at {w : World} {g : Nat} {cur : Array Value} {e : TypeId} {f : Nat × Nat} (h : w.heap[g]? = some (.cells cur e f)) {o : Nat} {cs : List Value} (hc : ∀ j v, cs[j]? = some v → cur[o + j]? = some v) : w.rangeAt g o cs := fun j v hv => by
  rw [cell_at h]; exact hc j v hv
theorem Upd.range {S : Nat → Prop} {a b : World} (h : Upd S a b) {g o : Nat} {cs : List Value} (hr : a.rangeAt g o cs) (hn : ¬ S g) : b.rangeAt g o cs := fun j v hv => h.cell (hr j v hv) hn
theorem Upd.there {S : Nat → Prop} {a b : World} (h : Upd S a b) {g o n : Nat} (hr : a.there g o n) (hn : ¬ S g) (hg : g < a.heap.size) : b.there g o n := fun j hj => by
  rw [World.cell?_of_block (a := ⟨g, o + j, none⟩) (h.block g hg hn), World.frozen?_of_block (a := ⟨g, o + j, none⟩) (h.block g hg hn)]
  exact hr j hj
theorem heap_alloc_drew (w : World) (o : Obj) : (w.alloc o).drew.heap[w.heap.size]? = some o := by
  rw [World.alloc, World.drew]
  exact Array.getElem?_push_size
theorem size_alloc_drew (w : World) (o : Obj) : w.heap.size < (w.alloc o).drew.heap.size := by
  rw [World.alloc, World.drew]
  simp
theorem size_alloc (w : World) (o : Obj) : (w.alloc o).heap.size = w.heap.size + 1 := by
  rw [World.alloc]
  exact Array.size_push ..
theorem heap_alloc2 (w : World) (a o : Obj) : ((w.alloc a).alloc o).heap[w.heap.size + 1]? = some o := by
  have h : (w.alloc a).heap.size = w.heap.size + 1 := by
    rw [World.alloc]
    exact Array.size_push ..
  rw [← h]
  rw [World.alloc]
  exact Array.getElem?_push_size
theorem results_cell_tmp {fn : Func} {P : Program} {tmps : Array Value} {w : World} {t u : Tmp} {ty : TypeId} (h : fn.results = #[.cell t ty, .tmp u]) {b o : Nat} (ht : tmps.getD t undef = .pointer (some ⟨b, o, none⟩))
    (cs : List Value) (d : TypeDesc) (hc : w.rangeAt b o cs) (hu : P.underlying ty = some d) (hd : d.isRow = true) (hi : (P.info? ty).map (·.size) = some cs.length) :
    (results fn tmps).run P w = .ok (.tuple #[.agg cs.toArray, tmps.getD u undef]) w := by
  have := run_loadVar_mid w b o ty cs d hc hu hd hi
  have ht' : tmps[t]?.getD undef = .pointer (some ⟨b, o, none⟩) := by rw [← ht]; simp
  simp [results, h, ht', this, asAddr]
theorem foldl_set (off : Nat) : ∀ (v mid : List Value) (n : Nat) (pre post : List Value), pre.length = off + n → mid.length = v.length →
    (v.zipIdx n).foldl (fun (cs : Array Value) p => cs.setIfInBounds (off + p.2) p.1) (pre ++ mid ++ post).toArray = (pre ++ v ++ post).toArray
  | [], mid, n, pre, post, hp, hm => by
    rw [List.length_eq_zero_iff.1 hm]
    rfl
  | c :: r, [], n, pre, post, hp, hm => by simp at hm
  | c :: r, m :: mid, n, pre, post, hp, hm => by
    have h := foldl_set off r mid (n + 1) (pre ++ [c]) post (by simp; omega) (by simpa using hm)
    have e1 : (pre ++ (m :: mid) ++ post).toArray.setIfInBounds (off + n) c = (pre ++ [c] ++ mid ++ post).toArray := by
      rw [← hp]
      simp
    rw [List.zipIdx_cons, List.foldl_cons]
    simp only []
    rw [e1, h]
    simp
theorem fill_step {place : Nat → Option (Nat × Nat)} {pre mid post v : List Value} {i off : Nat} {x : Value} {rest : List (Nat × Value)} (hv : x.cells = v.toArray) (hp : place i = some (off, v.length)) (ho : pre.length = off) (hm : mid.length = v.length) :
    Instr.fill place (pre ++ mid ++ post).toArray ((i, x) :: rest) = Instr.fill place (pre ++ v ++ post).toArray rest := by
  rw [Instr.fill.eq_def]
  simp only [hp, hv]
  rw [if_neg (by simp; omega), ← foldl_set off v mid 0 pre post (by omega) hm]
  congr 1
  rw [← Array.foldl_toList]
  simp
theorem built_struct {P : Program} {t : TypeId} {fields : Array Field} {z : Value} {places : List (Nat × Nat)} {parts : List (Nat × Value)} (hz : (P.info? t).bind (·.zero) = some z) (hu : P.underlying t = some (.struct fields))
    (hp : fields.toList.mapM (fun f => (P.info? f.type).map fun i => (f.offset, i.size)) = some places) : P.built t parts = Instr.fill (places.toArray[·]?) z.cells parts := by
  unfold Program.built
  cases hi : P.info? t with
  | none => simp [hi] at hz
  | some it =>
    have hz' : it.zero = some z := by simpa [hi] using hz
    simp only [hu, hz', hp]
theorem at_setCells {g : Nat} {e : TypeId} {f : Nat × Nat} {post : List Value} : ∀ (vs mid pre : List Value) {w : World}, w.heap[g]? = some (.cells (pre ++ mid ++ post).toArray e f) → mid.length = vs.length → (w.setCells g pre.length vs).heap[g]? = some (.cells (pre ++ vs ++ post).toArray e f)
  | [], mid, pre, w, h, hm => by
    rw [List.length_eq_zero_iff.1 hm] at h
    exact h
  | c :: r, [], pre, w, h, hm => by simp at hm
  | c :: r, m :: mid, pre, w, h, hm => by
    rw [World.setCells]
    have h1 := at_setCell_same h pre.length c
    have e1 : (pre ++ (m :: mid) ++ post).toArray.setIfInBounds pre.length c = ((pre ++ [c]) ++ mid ++ post).toArray := by simp
    rw [e1] at h1
    have h2 := at_setCells r mid (pre ++ [c]) h1 (by simpa using hm)
    have e2 : (pre ++ [c]).length = pre.length + 1 := by simp
    rw [e2] at h2
    rw [h2]
    simp
/-- all of a block's cells at once. -/
theorem at_setAll {w : World} {g : Nat} {cur : Array Value} {e : TypeId} {f : Nat × Nat} {vs : List Value} (h : w.heap[g]? = some (.cells cur e f)) (hl : cur.size = vs.length) : (w.setCells g 0 vs).heap[g]? = some (.cells vs.toArray e f) := by
  have := at_setCells (post := []) vs cur.toList [] (w := w) (by simpa using h) (by simpa using hl)
  simpa using this
theorem wp_mapUpdate {P : Program} {k e t : TypeId} {w : World} {b : Nat} {l : List (Value × Value)} {o : Oper} {a : Act} {K : Act → World → Prop} {Q : Exit → Act → World → Prop} (m x v : Operand) (hop : o.op = Op.mapUpdate t m x v) (hk : Maps.Keyed P k) (ht : P.underlying t = some (.map k e))
    (h : MapAt w P k b l) (hm : a.eval m = .map (some b)) (key val : Value) (kl : Lit) (hkey : keyOf P k key = some kl) (hx : a.eval x = key) (hv : a.eval v = val)
    (hK : ∀ w', MapAt w' P k b (aput l key val) → Upd (· = b) w w' → K (a.put o.dst undef) w') : o.wp P a w K Q := by
  obtain ⟨w', hrun, r1, r2⟩ := h.put (val := val) hk ht hkey
  unfold Oper.wp
  simp [execOp, hop, hm, hx, hv, hrun, Result.andThen]
  exact hK w' r1 r2
theorem wp_delete {P : Program} {k e t : TypeId} {w : World} {b : Nat} {l : List (Value × Value)} {o : Oper} {a : Act} {K : Act → World → Prop} {Q : Exit → Act → World → Prop} (m x : Operand) (hop : o.op = Op.call { callee := Callee.builtin Builtin.delete, args := #[m, x], argTypes := #[t, k] }) (hk : Maps.Keyed P k) (ht : P.underlying t = some (.map k e))
    (h : MapAt w P k b l) (hm : a.eval m = .map (some b)) (key : Value) (kl : Lit) (hkey : keyOf P k key = some kl) (hx : a.eval x = key)
    (hK : ∀ w', MapAt w' P k b (adel l key) → Upd (· = b) w w' → K (a.put o.dst (.tuple #[])) w') : o.wp P a w K Q := by
  obtain ⟨w', hrun, r1, r2⟩ := h.drop (ty := o.type) hk ht hkey
  unfold Oper.wp
  simp [execOp, hop, resolve, invoke, builtin, hm, hx, hrun, Result.andThen]
  exact hK w' r1 r2
theorem wpList_wanted {P : Program} {ops : Array Oper} {rest : List Oper} {o : Oper} {a : Act} {w : World} {Q : Exit → Act → World → Prop} (hw : Region.wanted o (yielded ops a.tmps) = true)
    (h : ∀ K : Act → World → Prop, (∀ a w, wpList P ops Q rest a w → K a w) → o.wp P a w K Q) : wpList P ops Q (o :: rest) a w :=
  wpList_step fun K hK => by rw [if_pos hw]; exact h K hK
theorem wpl_build {P : Program} {ops : Array Oper} {rest : List Oper} {o : Oper} {a : Act} {w : World} {Q : Exit → Act → World → Prop} (hw : Region.wanted o (yielded ops a.tmps) = true) (t : TypeId) (parts : Array (Nat × Operand)) (ho : o.op = .build t parts)
    (vs : Array (Nat × Value)) (hp : (parts.map fun (i, x) => (i, a.eval x)) = vs) (cells : Array Value) (hb : P.built t vs.toList = some cells) (h : wpList P ops Q rest (a.put o.dst (.agg cells)) w) : wpList P ops Q (o :: rest) a w :=
  wpList_wanted hw fun _ hK => by
    unfold Oper.wp
    simp only [execOp, ho, hp, run_build w t _ cells hb, Sem.run_bind, Result.andThen_ok, Sem.run_pure]
    exact hK _ _ h
theorem wpl_load {P : Program} {ops : Array Oper} {rest : List Oper} {op : Oper} {a : Act} {w : World} {Q : Exit → Act → World → Prop} (hw : Region.wanted op (yielded ops a.tmps) = true) (ty : TypeId) (x : Operand) (ho : op.op = .load ty x)
    (b o : Nat) (hx : a.eval x = .pointer (some ⟨b, o, none⟩)) (cs : List Value) (d : TypeDesc) (hc : w.rangeAt b o cs) (hu : P.underlying ty = some d) (hd : d.isRow = true) (hi : (P.info? ty).map (·.size) = some cs.length)
    (h : wpList P ops Q rest (a.put op.dst (.agg cs.toArray)) w) : wpList P ops Q (op :: rest) a w :=
  wpList_wanted hw fun _ hK => wp_load_mid ty x ho b o hx cs d hc hu hd hi (hK _ _ h)
theorem wpl_lookupg {P : Program} {k e t : TypeId} {w : World} {b : Nat} {l : List (Value × Value)} {ops : Array Oper} {rest : List Oper} {o : Oper} {a : Act} {Q : Exit → Act → World → Prop} (hw : Region.wanted o (yielded ops a.tmps) = true) (m x : Operand) (hop : o.op = Op.lookup t m x false) (hk : Maps.Keyed P k) (ht : P.underlying t = some (.map k e)) (z : Value) (hz : (zeroValue e).run P w = .ok z w)
    (h : MapAt w P k b l) (hm : a.eval m = .map (some b)) (key : Value) (kl : Lit) (hkey : keyOf P k key = some kl) (hx : a.eval x = key) (v : Value) (hr : (alook l key).getD z = v)
    (hK : wpList P ops Q rest (a.put o.dst v) w) : wpList P ops Q (o :: rest) a w := by
  refine wpList_wanted hw fun K' hK' => ?_
  subst hr
  have hrun := h.look hk ht hz hkey false
  unfold Oper.wp
  simp [execOp, hop, hm, hx, hrun, Result.andThen]
  exact hK' _ _ hK
theorem Reads.upd0 {S : Nat → Prop} {w w' : World} {size : Nat} {v : Value} {n : Nat} {xs : List Value} (h : Reads w size v n xs) (hu : Upd S w w') (hs : n ≠ 0 → ∀ k, v.ownBlock = some k → ¬ S k) : Reads w' size v n xs := by
  by_cases h0 : n = 0
  · subst h0
    have e : xs = [] := List.eq_nil_of_length_eq_zero (by have := h.1; simpa using this)
    subst e
    rcases h.2 with e | ⟨a, c, e1, e2, _⟩
    · exact ⟨h.1, .inl e⟩
    · exact ⟨h.1, .inr ⟨a, c, e1, e2, fun j u hj => by simp at hj⟩⟩
  · exact h.upd hu (hs h0)
end Go.Proofs.Ytfpbkofjbnmkeaa
